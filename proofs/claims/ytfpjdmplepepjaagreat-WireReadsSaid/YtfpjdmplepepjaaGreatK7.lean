/- Contexts, catalogues, views as bytes. (and what stands on it: 2 texts in one) -/
import Derived.Test.YtfpjdmplepepjaaGreatK5
import Derived.Test.YtfpjdmplepepjaaGreatK2
import Derived.Test.YtfpjdmplepepjaaGreatK6
import Derived.Test.YtfpjdmplepepjaaGreatK4
/-! WBytes: Contexts, catalogues, views as bytes. -/
namespace Go.Proofs.YtfpjdmplepepjaaGreat
open Go.RowKit

theorem rowD_is (ps : List Dot2) : rowD ps = rowL dotL ps := rfl
theorem text_is (t : ByteArray) (s : ByteArray) (hs : Hid (s = ofL (textL (bl t)))) (w : World) (ht : t.size ≤ 1000000) :
    Calls Tryz.prog 31 #[.string t] w fun e w' => e = .returned (.string s) ∧ Below w.heap.size w w' := by rw [hs.out]; exact text_any t w (by omega)
theorem row_is (ao : Option Addr) (ps : List Dot2) (n cap : Nat) (hn : Hid (ps.length = n)) (hm : n ≤ 1000000) (hin : Hid (∀ p ∈ ps, upDot p)) (w : World) (hs : SlP w ao ps) (s : ByteArray) (hss : Hid (s = ofL (rowL dotL ps))) :
    Calls Tryz.prog 89 #[.slice ao n cap] w fun e w' => e = .returned (.string s) ∧ Below w.heap.size w w' :=
  row_any ao ps n cap hn hm (show ∀ p ∈ ps, InD p from fun p hp => ⟨(hin.out p hp).1.2, (hin.out p hp).2.2⟩) w hs s hss
theorem dots_le (ps : List Dot2) (n : Nat) (hn : ps.length = n) (hm : n ≤ 1000000) (h : ∀ p ∈ ps, upDot p) : (rowL dotL ps).length ≤ 10 + 20 * 1000000 := by
  have := rowL_le (f := dotL) (m := 20) ps (by omega) fun p hp => dotL_le (h p hp)
  rw [hn] at this; omega

set_option maxRecDepth 100000 in
set_option maxHeartbeats 4000000 in
theorem ctxbytes_any (ab ac : Option Addr) (nb kb nc kc : Nat) (bs cl : List Dot2) (hn : Hid (bs.length = nb)) (hm : nb ≤ 1000000) (hn2 : Hid (cl.length = nc)) (hm2 : nc ≤ 1000000) (h1 : Hid (∀ p ∈ bs, upDot p)) (h2 : Hid (∀ p ∈ cl, upDot p)) (s : ByteArray) (hs : Hid (s = ofL (ctxL bs cl))) (w : World) (g1 : SlP w ab bs) (g2 : SlP w ac cl) :
    Calls Tryz.prog 62 #[.agg #[.slice ab nb kb, .slice ac nc kc]] w fun e w' => e = .returned (.string s) ∧ Below w.heap.size w w' := by
  obtain ⟨w0, hw0⟩ := nm (w.alloc (.cells #[.slice ab nb kb, .slice ac nc kc] 27))
  obtain ⟨x, hx⟩ := nm w.heap.size
  have Kx : Hid (Blk w0 x #[.slice ab nb kb, .slice ac nc kc] 27) := blkN hw0.out hx.out
  have HB0 : Hid (Below w.heap.size w w0) := by rw [hw0.out]; exact bOld _
  have HS1 : Hid (SlP w0 ab bs) := g1.below HB0.out
  have HS2 : Hid (SlP w0 ac cl) := g2.below HB0.out
  clear g1 g2
  obtain ⟨s1, hs1⟩ := nm (ofL (rowL dotL bs))
  obtain ⟨s2, hs2⟩ := nm (ofL (rowL dotL cl))
  have hsum : Hid (s1 ++ s2 = s) := by show _ = _; rw [hs.out, hs1.out, hs2.out, ofL_append]; rfl
  have l1 : s1.size ≤ 10 + 20 * 1000000 := by rw [hs1.out, ofL_size]; exact dots_le bs nb hn.out hm h1.out
  have l2 : s2.size ≤ 10 + 20 * 1000000 := by rw [hs2.out, ofL_size]; exact dots_le cl nc hn2.out hm2 h2.out
  have hadd := fun w : World => run_string_add_sum (P := Tryz.prog) w s1 s2 (by omega)
  clear l1 l2
  have c0 : w0.cell? ⟨x, 0, none⟩ = some (.slice ab nb kb) := Kx.out.cell 0
  have c1 : w0.cell? ⟨x, 1, none⟩ = some (.slice ac nc kc) := Kx.out.cell 1
  have KEEP : Hid (∀ wb : World, Below w0.drew.heap.size w0.drew wb → wb.cell? ⟨x, 0, none⟩ = some (.slice ab nb kb) ∧ wb.cell? ⟨x, 1, none⟩ = some (.slice ac nc kc)) := by
    show ∀ wb : World, _
    intro wb h
    have h1 := Blk.below (w := w0.drew) Kx.out h Kx.out.lt
    exact ⟨h1.cell 0, h1.cell 1⟩
  go_enter Tryz.func62, Tryz.ntmps62
  go_upto_region 1 with fail
  rw [← hw0.out, ← hx.out]
  refine wp_region_held_drew (S := fun w' => w'.cell? ⟨x, 0, none⟩ = some (.slice ab nb kb) ∧ w'.cell? ⟨x, 1, none⟩ = some (.slice ac nc kc)) (by kernel_rfl) (⟨c0, c1⟩) (fun hHeld => ?_)
  refine wpAnyH_take (i := 0) (v := ?_) (takeL rfl) (by kernel_rfl) (by kernel_rfl) (by kernel_rfl) (fun _ _ _ h => h) (Or.inl ⟨by rfl, ?_⟩) (by assumption) ?_
  rotate_left
  · (intro w hSw; (try dsimp only at hSw); first | (go_simp; done) | (go_simp; with_reducible rfl))
  try simp only [Act.put, List.setIfInBounds_toArray, List.set_cons_zero, List.set_cons_succ]
  refine wpAnyH_take (i := 1) (v := ?_) (takeL rfl) (by kernel_rfl) (by kernel_rfl) (by kernel_rfl) (fun _ _ _ h => h) (Or.inl ⟨by rfl, ?_⟩) (by assumption) ?_
  rotate_left
  · (intro w hSw; (try dsimp only at hSw); first | (go_simp; done) | (go_simp; with_reducible rfl))
  try simp only [Act.put, List.setIfInBounds_toArray, List.set_cons_zero, List.set_cons_succ]
  refine wpAnyH_take (i := 3) (v := ?_) (takeL rfl) (by kernel_rfl) (by kernel_rfl) (by kernel_rfl) (fun _ _ _ h => h) (Or.inl ⟨by rfl, ?_⟩) (by assumption) ?_
  rotate_left
  · (intro w hSw; (try dsimp only at hSw); first | (go_simp; done) | (go_simp; with_reducible rfl))
  try simp only [Act.put, List.setIfInBounds_toArray, List.set_cons_zero, List.set_cons_succ]
  refine wpAnyH_take (i := 4) (v := ?_) (takeL rfl) (by kernel_rfl) (by kernel_rfl) (by kernel_rfl) (fun _ _ _ h => h) (Or.inl ⟨by rfl, ?_⟩) (by assumption) ?_
  rotate_left
  · (intro w hSw; (try dsimp only at hSw); first | (go_simp; done) | (go_simp; with_reducible rfl))
  try simp only [Act.put, List.setIfInBounds_toArray, List.set_cons_zero, List.set_cons_succ]
  refine wpAnyH_ready (rs := [2]) (by kernel_rfl) (by simp) ?_
  refine AllReadyH.cons (takeL rfl) (fun K hK => ?_) AllReadyH.nil
  go_simp
  refine (row_is ab bs nb kb hn hm h1 _ (HS1.out.below (bDrew (Below.refl _ _))) s1 hs1).mono ?_; rintro e w1 ⟨rfl, hB1⟩
  go_wp2_with fail
  refine hK.out _ _ (KEEP.out _ hB1) (fun hHeld => ?_)
  clear hK K
  refine wpAnyH_ready (rs := [5]) (by kernel_rfl) (by simp) ?_
  refine AllReadyH.cons (takeL rfl) (fun K hK => ?_) AllReadyH.nil
  go_simp
  refine (row_is ac cl nc kc hn2 hm2 h2 _ (HS2.out.below (bNext (bDrew (Below.refl _ _)) hB1)) s2 hs2).mono ?_; rintro e w2 ⟨rfl, hB2⟩
  go_wp2_with fail
  refine hK.out _ _ (KEEP.out _ (bNext hB1 hB2)) (fun hHeld => ?_)
  clear hK K
  refine wpAnyH_take (i := 6) (v := ?_) (takeL rfl) (by kernel_rfl) (by kernel_rfl) (by kernel_rfl) (fun _ _ _ h => h) (Or.inl ⟨by rfl, ?_⟩) (by assumption) ?_
  rotate_left
  · (intro w hSw; (try dsimp only at hSw); first | (go_simp; done) | (go_simp; with_reducible rfl))
  try simp only [Act.put, List.setIfInBounds_toArray, List.set_cons_zero, List.set_cons_succ]
  refine wpAnyH_take (i := 7) (v := ?_) (takeL rfl) (by kernel_rfl) (by kernel_rfl) (by kernel_rfl) (fun _ _ _ h => h) (Or.inl ⟨by rfl, ?_⟩) (by assumption) ?_
  rotate_left
  · (intro w hSw; (try dsimp only at hSw); first | (go_simp; done) | (go_simp; with_reducible rfl))
  try simp only [Act.put, List.setIfInBounds_toArray, List.set_cons_zero, List.set_cons_succ]
  refine wpAnyH_done (by kernel_rfl) ?_ _
  go_wp2_with fail
  go_ret
  exact ⟨congrArg (fun t => Ending.returned (Value.string t)) hsum.out, bNext (bDrew HB0.out) (bNext hB1 hB2)⟩

set_option maxRecDepth 100000 in
set_option maxHeartbeats 4000000 in
theorem tagbytes_any (ao : Option Addr) (n cap : Nat) (xs : List Tag2) (hn : Hid (xs.length = n)) (hm : n ≤ 1000000) (hin : Hid (∀ x ∈ xs, upTag x)) (s : ByteArray) (hss : Hid (s = ofL (rowL tagL xs))) (w : World) (hs : SlE eTag 2 w ao xs) :
    Calls Tryz.prog 33 #[.slice ao n cap] w fun e w' => e = .returned (.string s) ∧ Below w.heap.size w w' := by
  have HS := Lib.hid hs
  clear hs
  obtain ⟨s0, h0⟩ := nm (ofL (Pl.num n))
  have l0 : s0.size ≤ 10 := by rw [h0.out, ofL_size]; exact Pl.num_length_le _ (by omega)
  go_enter Tryz.func33, Tryz.ntmps33
  go_wp2_with fail
  refine (int_is (n : Int) s0 h0 _ (by omega)).mono ?_; rintro e w1 ⟨rfl, hB1⟩
  go_wp2_with fail
  go_loopw [3, 11] (fun v i wr => ∃ (k : Nat) (t : ByteArray), k ≤ n ∧ i = .int .i64 (k : Int) ∧ v = .string t ∧ t.size ≤ 10 + 1000020 * k ∧ Below w.heap.size w wr ∧ Hid (t = s0 ++ ofL ((xs.take k).flatMap tagL))) (fun _ i _ => n - (intOf i).toNat)
  case atStart => exact ⟨0, s0, by omega, rfl, rfl, by omega, hB1, by show _ = _; rw [List.take_zero]; exact (append_nil s0).symm⟩
  case round =>
    obtain ⟨k, t, hk, rfl, rfl, ht, hB, hT⟩ := hrel
    by_cases hlt : k < n
    · obtain ⟨b, off, ⟨u, v⟩, rfl, hbl, hpk, hcells⟩ := (HS.out.below hB).get k (by rw [hn.out]; exact hlt)
      have d0 : wr.cell? ⟨b, off + k * 2, none⟩ = some (.string u) := hcells 0 _ rfl
      have d1 : wr.cell? ⟨b, off + k * 2 + 1, none⟩ = some (.int .i64 v) := hcells 1 _ rfl
      clear hcells
      obtain ⟨q1, q2⟩ := hin.out _ (List.mem_of_getElem? hpk.out)
      simp only at q1 q2
      obtain ⟨s1, h1⟩ := nm (ofL (textL (bl u)))
      obtain ⟨s2, h2⟩ := nm (ofL (Pl.num v.toNat))
      have l1 : s1.size ≤ 1000010 := by rw [h1.out, ofL_size]; have := textL_le q1 (Nat.le_refl _); omega
      have l2 : s2.size ≤ 10 := by rw [h2.out, ofL_size]; exact num_le q2
      have hts : (t ++ (s1 ++ s2)).size ≤ 10 + 1000020 * (k + 1) := by rw [app_size, app_size]; omega
      have k1 := fun w : World => run_string_add_sum (P := Tryz.prog) w s1 s2 (by omega)
      have k2 := fun w : World => run_string_add_sum (P := Tryz.prog) w t (s1 ++ s2) (by rw [app_size]; omega)
      have HT : Hid (t ++ (s1 ++ s2) = s0 ++ ofL ((xs.take (k + 1)).flatMap tagL)) := by
        show _ = _
        rw [hT.out, h1.out, h2.out, flat_take hpk.out, ← ofL_append, app_assoc, ofL_append (textL _)]; rfl
      clear hT
      obtain ⟨y, hy⟩ := nm wr.heap.size
      obtain ⟨w3, hw3⟩ := nm (wr.alloc (.cells #[.string u, .int .i64 v] 75))
      have Ky : Hid (Blk w3 y #[.string u, .int .i64 v] 75) := blkN hw3.out hy.out
      have HB3 : Hid (Below w.heap.size w w3) := by rw [hw3.out]; exact bNew hB _
      have e0 : w3.cell? ⟨y, 0, none⟩ = some (.string u) := Ky.out.cell 0
      have e1 : w3.cell? ⟨y, 1, none⟩ = some (.int .i64 v) := Ky.out.cell 1
      clear hB
      have KEEP : Hid (∀ wb : World, Below w3.drew.heap.size w3.drew wb → wb.cell? ⟨y, 0, none⟩ = some (.string u) ∧ wb.cell? ⟨y, 1, none⟩ = some (.int .i64 v)) := by
        show ∀ wb : World, _
        intro wb h
        have h2 := Blk.below (w := w3.drew) Ky.out h Ky.out.lt
        exact ⟨h2.cell 0, h2.cell 1⟩
      go_wp2_with fail
      rw [← hw3.out, ← hy.out]
      refine wp_region_held_drew (S := fun w' => w'.cell? ⟨y, 0, none⟩ = some (.string u) ∧ w'.cell? ⟨y, 1, none⟩ = some (.int .i64 v)) (by kernel_rfl) (⟨e0, e1⟩) (fun hHeld => ?_)
      refine wpAnyH_take (i := 0) (v := ?_) (takeL rfl) (by kernel_rfl) (by kernel_rfl) (by kernel_rfl) (fun _ _ _ h => h) (Or.inl ⟨by rfl, ?_⟩) (by assumption) ?_
      rotate_left
      · (intro w hSw; (try dsimp only at hSw); first | (go_simp; done) | (go_simp; with_reducible rfl))
      try simp only [Act.put, List.setIfInBounds_toArray, List.set_cons_zero, List.set_cons_succ]
      refine wpAnyH_take (i := 1) (v := ?_) (takeL rfl) (by kernel_rfl) (by kernel_rfl) (by kernel_rfl) (fun _ _ _ h => h) (Or.inl ⟨by rfl, ?_⟩) (by assumption) ?_
      rotate_left
      · (intro w hSw; (try dsimp only at hSw); first | (go_simp; done) | (go_simp; with_reducible rfl))
      try simp only [Act.put, List.setIfInBounds_toArray, List.set_cons_zero, List.set_cons_succ]
      refine wpAnyH_take (i := 2) (v := ?_) (takeL rfl) (by kernel_rfl) (by kernel_rfl) (by kernel_rfl) (fun _ _ _ h => h) (Or.inl ⟨by rfl, ?_⟩) (by assumption) ?_
      rotate_left
      · (intro w hSw; (try dsimp only at hSw); first | (go_simp; done) | (go_simp; with_reducible rfl))
      try simp only [Act.put, List.setIfInBounds_toArray, List.set_cons_zero, List.set_cons_succ]
      refine wpAnyH_take (i := 4) (v := ?_) (takeL rfl) (by kernel_rfl) (by kernel_rfl) (by kernel_rfl) (fun _ _ _ h => h) (Or.inl ⟨by rfl, ?_⟩) (by assumption) ?_
      rotate_left
      · (intro w hSw; (try dsimp only at hSw); first | (go_simp; done) | (go_simp; with_reducible rfl))
      try simp only [Act.put, List.setIfInBounds_toArray, List.set_cons_zero, List.set_cons_succ]
      refine wpAnyH_take (i := 5) (v := ?_) (takeL rfl) (by kernel_rfl) (by kernel_rfl) (by kernel_rfl) (fun _ _ _ h => h) (Or.inl ⟨by rfl, ?_⟩) (by assumption) ?_
      rotate_left
      · (intro w hSw; (try dsimp only at hSw); first | (go_simp; done) | (go_simp; with_reducible rfl))
      try simp only [Act.put, List.setIfInBounds_toArray, List.set_cons_zero, List.set_cons_succ]
      refine wpAnyH_ready (rs := [3]) (by kernel_rfl) (by simp) ?_
      refine AllReadyH.cons (takeL rfl) (fun K hK => ?_) AllReadyH.nil
      go_simp
      refine (text_is u s1 h1 _ q1).mono ?_; rintro e w4 ⟨rfl, hB4⟩
      go_wp2_with fail
      refine hK.out _ _ (KEEP.out _ hB4) (fun hHeld => ?_)
      clear hK K
      refine wpAnyH_ready (rs := [6]) (by kernel_rfl) (by simp) ?_
      refine AllReadyH.cons (takeL rfl) (fun K hK => ?_) AllReadyH.nil
      go_simp
      refine (int_is v s2 h2 _ q2.2).mono ?_; rintro e w5 ⟨rfl, hB5⟩
      go_wp2_with fail
      refine hK.out _ _ (KEEP.out _ (bNext hB4 hB5)) (fun hHeld => ?_)
      clear hK K
      refine wpAnyH_take (i := 7) (v := ?_) (takeL rfl) (by kernel_rfl) (by kernel_rfl) (by kernel_rfl) (fun _ _ _ h => h) (Or.inl ⟨by rfl, ?_⟩) (by assumption) ?_
      rotate_left
      · (intro w hSw; (try dsimp only at hSw); first | (go_simp; done) | (go_simp; with_reducible rfl))
      try simp only [Act.put, List.setIfInBounds_toArray, List.set_cons_zero, List.set_cons_succ]
      refine wpAnyH_take (i := 8) (v := ?_) (takeL rfl) (by kernel_rfl) (by kernel_rfl) (by kernel_rfl) (fun _ _ _ h => h) (Or.inl ⟨by rfl, ?_⟩) (by assumption) ?_
      rotate_left
      · (intro w hSw; (try dsimp only at hSw); first | (go_simp; done) | (go_simp; with_reducible rfl))
      try simp only [Act.put, List.setIfInBounds_toArray, List.set_cons_zero, List.set_cons_succ]
      refine wpAnyH_take (i := 9) (v := ?_) (takeL rfl) (by kernel_rfl) (by kernel_rfl) (by kernel_rfl) (fun _ _ _ h => h) (Or.inl ⟨by rfl, ?_⟩) (by assumption) ?_
      rotate_left
      · (intro w hSw; (try dsimp only at hSw); first | (go_simp; done) | (go_simp; with_reducible rfl))
      try simp only [Act.put, List.setIfInBounds_toArray, List.set_cons_zero, List.set_cons_succ]
      refine wpAnyH_done (by kernel_rfl) ?_ _
      go_wp2_with fail
      go_roundw
      case rel => exact ⟨k + 1, t ++ (s1 ++ s2), by omega, by go_num, rfl, hts, bNext (bDrew HB3.out) (bNext hB4 hB5), HT⟩
      case measure => simp [intOf]; omega
    · obtain rfl : k = n := by omega
      have HE : Hid (t = s) := by
        show _ = _
        rw [hT.out, hss.out, h0.out, List.take_of_length_le (by rw [hn.out]; exact Nat.le_refl _), ofL_append, rowL, hn.out]
      go_wp2_with fail
      go_ret
      rw [HE.out]
      exact ⟨rfl, hB⟩

set_option maxRecDepth 100000 in
set_option maxHeartbeats 4000000 in
theorem viewbytes_any (ao : Option Addr) (n cap : Nat) (xs : List Peer3) (hn : Hid (xs.length = n)) (hm : n ≤ 1000000) (hin : Hid (∀ x ∈ xs, upPeer x)) (s : ByteArray) (hss : Hid (s = ofL (rowL peerL xs))) (w : World) (hs : SlE ePeer 3 w ao xs) :
    Calls Tryz.prog 34 #[.slice ao n cap] w fun e w' => e = .returned (.string s) ∧ Below w.heap.size w w' := by
  have HS := Lib.hid hs
  clear hs
  obtain ⟨s0, h0⟩ := nm (ofL (Pl.num n))
  have l0 : s0.size ≤ 10 := by rw [h0.out, ofL_size]; exact Pl.num_length_le _ (by omega)
  go_enter Tryz.func34, Tryz.ntmps34
  go_wp2_with fail
  refine (int_is (n : Int) s0 h0 _ (by omega)).mono ?_; rintro e w1 ⟨rfl, hB1⟩
  go_wp2_with fail
  go_loopw [3, 11] (fun v i wr => ∃ (k : Nat) (t : ByteArray), k ≤ n ∧ i = .int .i64 (k : Int) ∧ v = .string t ∧ t.size ≤ 10 + 30 * k ∧ Below w.heap.size w wr ∧ Hid (t = s0 ++ ofL ((xs.take k).flatMap peerL))) (fun _ i _ => n - (intOf i).toNat)
  case atStart => exact ⟨0, s0, by omega, rfl, rfl, by omega, hB1, by show _ = _; rw [List.take_zero]; exact (append_nil s0).symm⟩
  case round =>
    obtain ⟨k, t, hk, rfl, rfl, ht, hB, hT⟩ := hrel
    by_cases hlt : k < n
    · obtain ⟨b, off, ⟨u, v, z⟩, rfl, hbl, hpk, hcells⟩ := (HS.out.below hB).get k (by rw [hn.out]; exact hlt)
      have d0 : wr.cell? ⟨b, off + k * 3, none⟩ = some (.int .i64 u) := hcells 0 _ rfl
      have d1 : wr.cell? ⟨b, off + k * 3 + 1, none⟩ = some (.int .i64 v) := hcells 1 _ rfl
      have d2 : wr.cell? ⟨b, off + k * 3 + 2, none⟩ = some (.int .i64 z) := hcells 2 _ rfl
      clear hcells
      obtain ⟨q1, q2, q3⟩ := hin.out _ (List.mem_of_getElem? hpk.out)
      simp only at q1 q2 q3
      obtain ⟨s1, h1⟩ := nm (ofL (Pl.num u.toNat))
      obtain ⟨s2, h2⟩ := nm (ofL (Pl.num v.toNat))
      obtain ⟨s3, h3⟩ := nm (ofL (Pl.num z.toNat))
      have l1 : s1.size ≤ 10 := by rw [h1.out, ofL_size]; exact num_le q1
      have l2 : s2.size ≤ 10 := by rw [h2.out, ofL_size]; exact num_le q2
      have l3 : s3.size ≤ 10 := by rw [h3.out, ofL_size]; exact num_le q3
      have hts : (t ++ (s1 ++ s2 ++ s3)).size ≤ 10 + 30 * (k + 1) := by rw [app_size, app_size, app_size]; omega
      have k1 := fun w : World => run_string_add_sum (P := Tryz.prog) w s1 s2 (by omega)
      have k2 := fun w : World => run_string_add_sum (P := Tryz.prog) w (s1 ++ s2) s3 (by rw [app_size]; omega)
      have k3 := fun w : World => run_string_add_sum (P := Tryz.prog) w t (s1 ++ s2 ++ s3) (by rw [app_size, app_size]; omega)
      have HT : Hid (t ++ (s1 ++ s2 ++ s3) = s0 ++ ofL ((xs.take (k + 1)).flatMap peerL)) := by
        show _ = _
        rw [hT.out, h1.out, h2.out, h3.out, flat_take hpk.out, ← ofL_append, app_assoc, ofL_append, ofL_append, List.append_assoc]; rfl
      clear hT
      obtain ⟨y, hy⟩ := nm wr.heap.size
      obtain ⟨w3, hw3⟩ := nm (wr.alloc (.cells #[.int .i64 u, .int .i64 v, .int .i64 z] 77))
      have Ky : Hid (Blk w3 y #[.int .i64 u, .int .i64 v, .int .i64 z] 77) := blkN hw3.out hy.out
      have HB3 : Hid (Below w.heap.size w w3) := by rw [hw3.out]; exact bNew hB _
      have e0 : w3.cell? ⟨y, 0, none⟩ = some (.int .i64 u) := Ky.out.cell 0
      have e1 : w3.cell? ⟨y, 1, none⟩ = some (.int .i64 v) := Ky.out.cell 1
      have e2 : w3.cell? ⟨y, 2, none⟩ = some (.int .i64 z) := Ky.out.cell 2
      clear hB
      have KEEP : Hid (∀ wb : World, Below w3.drew.heap.size w3.drew wb → wb.cell? ⟨y, 0, none⟩ = some (.int .i64 u) ∧ wb.cell? ⟨y, 1, none⟩ = some (.int .i64 v) ∧ wb.cell? ⟨y, 2, none⟩ = some (.int .i64 z)) := by
        show ∀ wb : World, _
        intro wb h
        have h2 := Blk.below (w := w3.drew) Ky.out h Ky.out.lt
        exact ⟨h2.cell 0, h2.cell 1, h2.cell 2⟩
      go_wp2_with fail
      rw [← hw3.out, ← hy.out]
      refine wp_region_held_drew (S := fun w' => w'.cell? ⟨y, 0, none⟩ = some (.int .i64 u) ∧ w'.cell? ⟨y, 1, none⟩ = some (.int .i64 v) ∧ w'.cell? ⟨y, 2, none⟩ = some (.int .i64 z)) (by kernel_rfl) (⟨e0, e1, e2⟩) (fun hHeld => ?_)
      refine wpAnyH_take (i := 0) (v := ?_) (takeL rfl) (by kernel_rfl) (by kernel_rfl) (by kernel_rfl) (fun _ _ _ h => h) (Or.inl ⟨by rfl, ?_⟩) (by assumption) ?_
      rotate_left
      · (intro w hSw; (try dsimp only at hSw); first | (go_simp; done) | (go_simp; with_reducible rfl))
      try simp only [Act.put, List.setIfInBounds_toArray, List.set_cons_zero, List.set_cons_succ]
      refine wpAnyH_take (i := 1) (v := ?_) (takeL rfl) (by kernel_rfl) (by kernel_rfl) (by kernel_rfl) (fun _ _ _ h => h) (Or.inl ⟨by rfl, ?_⟩) (by assumption) ?_
      rotate_left
      · (intro w hSw; (try dsimp only at hSw); first | (go_simp; done) | (go_simp; with_reducible rfl))
      try simp only [Act.put, List.setIfInBounds_toArray, List.set_cons_zero, List.set_cons_succ]
      refine wpAnyH_take (i := 2) (v := ?_) (takeL rfl) (by kernel_rfl) (by kernel_rfl) (by kernel_rfl) (fun _ _ _ h => h) (Or.inl ⟨by rfl, ?_⟩) (by assumption) ?_
      rotate_left
      · (intro w hSw; (try dsimp only at hSw); first | (go_simp; done) | (go_simp; with_reducible rfl))
      try simp only [Act.put, List.setIfInBounds_toArray, List.set_cons_zero, List.set_cons_succ]
      refine wpAnyH_take (i := 4) (v := ?_) (takeL rfl) (by kernel_rfl) (by kernel_rfl) (by kernel_rfl) (fun _ _ _ h => h) (Or.inl ⟨by rfl, ?_⟩) (by assumption) ?_
      rotate_left
      · (intro w hSw; (try dsimp only at hSw); first | (go_simp; done) | (go_simp; with_reducible rfl))
      try simp only [Act.put, List.setIfInBounds_toArray, List.set_cons_zero, List.set_cons_succ]
      refine wpAnyH_take (i := 5) (v := ?_) (takeL rfl) (by kernel_rfl) (by kernel_rfl) (by kernel_rfl) (fun _ _ _ h => h) (Or.inl ⟨by rfl, ?_⟩) (by assumption) ?_
      rotate_left
      · (intro w hSw; (try dsimp only at hSw); first | (go_simp; done) | (go_simp; with_reducible rfl))
      try simp only [Act.put, List.setIfInBounds_toArray, List.set_cons_zero, List.set_cons_succ]
      refine wpAnyH_take (i := 8) (v := ?_) (takeL rfl) (by kernel_rfl) (by kernel_rfl) (by kernel_rfl) (fun _ _ _ h => h) (Or.inl ⟨by rfl, ?_⟩) (by assumption) ?_
      rotate_left
      · (intro w hSw; (try dsimp only at hSw); first | (go_simp; done) | (go_simp; with_reducible rfl))
      try simp only [Act.put, List.setIfInBounds_toArray, List.set_cons_zero, List.set_cons_succ]
      refine wpAnyH_take (i := 9) (v := ?_) (takeL rfl) (by kernel_rfl) (by kernel_rfl) (by kernel_rfl) (fun _ _ _ h => h) (Or.inl ⟨by rfl, ?_⟩) (by assumption) ?_
      rotate_left
      · (intro w hSw; (try dsimp only at hSw); first | (go_simp; done) | (go_simp; with_reducible rfl))
      try simp only [Act.put, List.setIfInBounds_toArray, List.set_cons_zero, List.set_cons_succ]
      refine wpAnyH_ready (rs := [3]) (by kernel_rfl) (by simp) ?_
      refine AllReadyH.cons (takeL rfl) (fun K hK => ?_) AllReadyH.nil
      go_simp
      refine (int_is u s1 h1 _ q1.2).mono ?_; rintro e w4 ⟨rfl, hB4⟩
      go_wp2_with fail
      refine hK.out _ _ (KEEP.out _ hB4) (fun hHeld => ?_)
      clear hK K
      refine wpAnyH_ready (rs := [6]) (by kernel_rfl) (by simp) ?_
      refine AllReadyH.cons (takeL rfl) (fun K hK => ?_) AllReadyH.nil
      go_simp
      refine (int_is v s2 h2 _ q2.2).mono ?_; rintro e w5 ⟨rfl, hB5⟩
      go_wp2_with fail
      refine hK.out _ _ (KEEP.out _ (bNext hB4 hB5)) (fun hHeld => ?_)
      clear hK K
      refine wpAnyH_take (i := 7) (v := ?_) (takeL rfl) (by kernel_rfl) (by kernel_rfl) (by kernel_rfl) (fun _ _ _ h => h) (Or.inl ⟨by rfl, ?_⟩) (by assumption) ?_
      rotate_left
      · (intro w hSw; (try dsimp only at hSw); first | (go_simp; done) | (go_simp; with_reducible rfl))
      try simp only [Act.put, List.setIfInBounds_toArray, List.set_cons_zero, List.set_cons_succ]
      refine wpAnyH_ready (rs := [10]) (by kernel_rfl) (by simp) ?_
      refine AllReadyH.cons (takeL rfl) (fun K hK => ?_) AllReadyH.nil
      go_simp
      refine (int_is z s3 h3 _ q3.2).mono ?_; rintro e w6 ⟨rfl, hB6⟩
      go_wp2_with fail
      refine hK.out _ _ (KEEP.out _ (bNext (bNext hB4 hB5) hB6)) (fun hHeld => ?_)
      clear hK K
      refine wpAnyH_take (i := 11) (v := ?_) (takeL rfl) (by kernel_rfl) (by kernel_rfl) (by kernel_rfl) (fun _ _ _ h => h) (Or.inl ⟨by rfl, ?_⟩) (by assumption) ?_
      rotate_left
      · (intro w hSw; (try dsimp only at hSw); first | (go_simp; done) | (go_simp; with_reducible rfl))
      try simp only [Act.put, List.setIfInBounds_toArray, List.set_cons_zero, List.set_cons_succ]
      refine wpAnyH_take (i := 12) (v := ?_) (takeL rfl) (by kernel_rfl) (by kernel_rfl) (by kernel_rfl) (fun _ _ _ h => h) (Or.inl ⟨by rfl, ?_⟩) (by assumption) ?_
      rotate_left
      · (intro w hSw; (try dsimp only at hSw); first | (go_simp; done) | (go_simp; with_reducible rfl))
      try simp only [Act.put, List.setIfInBounds_toArray, List.set_cons_zero, List.set_cons_succ]
      refine wpAnyH_take (i := 13) (v := ?_) (takeL rfl) (by kernel_rfl) (by kernel_rfl) (by kernel_rfl) (fun _ _ _ h => h) (Or.inl ⟨by rfl, ?_⟩) (by assumption) ?_
      rotate_left
      · (intro w hSw; (try dsimp only at hSw); first | (go_simp; done) | (go_simp; with_reducible rfl))
      try simp only [Act.put, List.setIfInBounds_toArray, List.set_cons_zero, List.set_cons_succ]
      refine wpAnyH_done (by kernel_rfl) ?_ _
      go_wp2_with fail
      go_roundw
      case rel => exact ⟨k + 1, t ++ (s1 ++ s2 ++ s3), by omega, by go_num, rfl, hts, bNext (bDrew HB3.out) (bNext (bNext hB4 hB5) hB6), HT⟩
      case measure => simp [intOf]; omega
    · obtain rfl : k = n := by omega
      have HE : Hid (t = s) := by
        show _ = _
        rw [hT.out, hss.out, h0.out, List.take_of_length_le (by rw [hn.out]; exact Nat.le_refl _), ofL_append, rowL, hn.out]
      go_wp2_with fail
      go_ret
      rw [HE.out]
      exact ⟨rfl, hB⟩
end Go.Proofs.YtfpjdmplepepjaaGreat

/-! WRefCtx: The document's contexts: the number of a node; may one be; was a name seen; their bytes. -/
namespace Go.Proofs.YtfpjdmplepepjaaGreat
open Go.RowKit

/-- The number of a node: the first one's. -/
def baseD (bs : List Dot2) (z : Int) : Int := match bs.find? (fun p => decide (p.1 = z)) with | some p => p.2 | none => 0
theorem baseD_none {bs : List Dot2} {z : Int} (h : ∀ p ∈ bs, p.1 ≠ z) : baseD bs z = 0 := by
  unfold baseD
  rw [List.find?_eq_none.2 (fun p hp => by simpa using h p hp)]
theorem baseD_at {bs : List Dot2} {z : Int} {k : Nat} {p : Dot2} (h : ∀ q ∈ bs.take k, q.1 ≠ z) (hp : bs[k]? = some p) (hz : p.1 = z) : baseD bs z = p.2 := by
  unfold baseD
  obtain ⟨h1, h2⟩ := List.getElem?_eq_some_iff.1 hp
  have e : bs = bs.take k ++ p :: bs.drop (k + 1) := by rw [← h2, ← List.drop_eq_getElem_cons h1, List.take_append_drop]
  rw [e, List.find?_append, List.find?_eq_none.2 (fun q hq => by simpa using h q hq)]
  simp [hz]
/-- Where names rise and may be it is what the program finds. -/
theorem base_upto {bs : List Dot2} (ha : Asc bs) (hd : ∀ x ∈ bs, dotP x) (z : Int) : baseD bs z = uptoD bs z := by
  unfold uptoD
  obtain ⟨M, hM⟩ := nm (lowD bs (z, 0))
  rw [← hM.out]
  have hlt : ∀ i, i < M → ∀ p, bs[i]? = some p → ltP p (z, 0) := by
    intro i hi p hp
    obtain ⟨g1, g2⟩ := get_of hp
    by_cases h : ltP p (z, 0)
    · exact h
    · exfalso
      have : i = lowD bs (z, 0) ∨ lowD bs (z, 0) ≤ i := by
        right
        rw [lowD]
        have h2 : ∀ j, i ≤ j → j < bs.length → ¬ ltP bs[j]! (z, 0) := fun j h1 h3 => asc_notlt ha hp h3 h1 h
        have h4 : (bs.filter fun y => decide (ltP y (z, 0))) = (bs.take i).filter fun y => decide (ltP y (z, 0)) := by
          conv => lhs; rw [← List.take_append_drop i bs, List.filter_append]
          have : (bs.drop i).filter (fun y => decide (ltP y (z, 0))) = [] := by
            rw [List.filter_eq_nil_iff]
            intro y hy
            obtain ⟨j, hj, rfl⟩ := List.getElem_of_mem hy
            rw [List.length_drop] at hj
            have h5 := h2 (i + j) (by omega) (by omega)
            rw [getElem!_pos bs (i + j) (by omega)] at h5
            rw [List.getElem_drop]
            simpa using h5
          rw [this, List.append_nil]
        rw [h4]
        exact Nat.le_trans (List.length_filter_le _ _) (by rw [List.length_take]; omega)
      rw [← hM.out] at this
      omega
  have hne : ∀ q ∈ bs.take M, q.1 ≠ z := by
    intro q hq e
    obtain ⟨i, hi, rfl⟩ := List.getElem_of_mem hq
    rw [List.length_take] at hi
    have h1 := hlt i (by omega) bs[i] (List.getElem?_eq_getElem (by omega))
    have h2 := (hd bs[i] (List.getElem_mem _)).le
    rw [List.getElem_take] at e
    unfold ltP at h1
    simp only at h1
    omega
  have hge : ∀ i p, M ≤ i → bs[i]? = some p → ¬ ltP p (z, 0) := by
    intro i p h1 hp h
    obtain ⟨g1, g2⟩ := get_of hp
    have h3 : ∀ j, j ≤ i → ltP bs[j]! (z, 0) := fun j hj => asc_lt ha hp hj h
    have h4 : i + 1 ≤ lowD bs (z, 0) := by
      rw [lowD]
      have h5 : ((bs.take (i + 1)).filter fun y => decide (ltP y (z, 0))) = bs.take (i + 1) := by
        rw [List.filter_eq_self]
        intro y hy
        obtain ⟨j, hj, rfl⟩ := List.getElem_of_mem hy
        rw [List.length_take] at hj
        have := h3 j (by omega)
        rw [getElem!_pos bs j (by omega)] at this
        rw [List.getElem_take]
        simpa using this
      have h6 : (bs.filter fun y => decide (ltP y (z, 0))).length = ((bs.take (i + 1)).filter fun y => decide (ltP y (z, 0))).length + ((bs.drop (i + 1)).filter fun y => decide (ltP y (z, 0))).length := by
        rw [← List.length_append, ← List.filter_append, List.take_append_drop]
      rw [h6, h5, List.length_take]
      omega
    rw [← hM.out] at h4
    omega
  cases hp : bs[M]? with
  | none =>
    refine baseD_none fun p hp2 => ?_
    have h1 : bs.length ≤ M := List.getElem?_eq_none_iff.1 hp
    rw [List.take_of_length_le h1] at hne
    exact hne p hp2
  | some p =>
    simp only
    by_cases hz : p.1 = z
    · rw [if_pos hz]; exact baseD_at hne hp hz
    · rw [if_neg hz]
      refine baseD_none fun q hq e => ?_
      obtain ⟨i, hi, rfl⟩ := List.getElem_of_mem hq
      rcases Nat.lt_or_ge i M with h1 | h1
      · exact hne bs[i] (by rw [List.mem_take_iff_getElem]; exact ⟨i, by omega, rfl⟩) e
      · have h2 := hge M p (Nat.le_refl _) hp
        rcases Nat.lt_or_ge M i with h3 | h3
        · have h4 := asc_mono ha h3 hi
          obtain ⟨g1, g2⟩ := get_of hp
          rw [g2, getElem!_pos bs i hi] at h4
          have h5 := (hd p (List.mem_of_getElem? hp)).le
          unfold ltP at h2 h4
          simp only at h2 h4
          omega
        · obtain rfl : i = M := by omega
          rw [List.getElem?_eq_getElem hi] at hp
          obtain rfl := Option.some.inj hp
          exact hz e

set_option maxRecDepth 100000 in
set_option maxHeartbeats 4000000 in
theorem refbase_any (ab ac : Option Addr) (nb kb nc kc : Nat) (bs : List Dot2) (hn : Hid (bs.length = nb)) (hm : nb ≤ 1000000) (z u : Int) (hu : Hid (u = baseD bs z)) (w : World) (hs : SlP w ab bs) :
    Calls Tryz.prog 99 #[.agg #[.slice ab nb kb, .slice ac nc kc], .int .i64 z] w fun e w' => e = .returned (.int .i64 u) ∧ Below w.heap.size w w' := by
  obtain ⟨w0, hw0⟩ := nm (w.alloc (.cells #[.slice ab nb kb, .slice ac nc kc] 27))
  obtain ⟨x, hx⟩ := nm w.heap.size
  have Kx : Hid (Blk w0 x #[.slice ab nb kb, .slice ac nc kc] 27) := blkN hw0.out hx.out
  have HB0 : Hid (Below w.heap.size w w0) := by rw [hw0.out]; exact bOld _
  have HS0 : Hid (SlP w0 ab bs) := hs.below HB0.out
  clear hs
  go_enter Tryz.func99, Tryz.ntmps99
  go_upto_region 1 with fail
  rw [← hw0.out, ← hx.out]
  have c0 : w0.cell? ⟨x, 0, none⟩ = some (.slice ab nb kb) := Kx.out.cell 0
  go_wp2_with fail
  go_loopw [5] (fun i wr => ∃ k : Nat, k ≤ nb ∧ i = .int .i64 (k : Int) ∧ w0 = wr ∧ Hid (∀ q ∈ bs.take k, q.1 ≠ z)) (fun i _ => nb - (intOf i).toNat)
  case atStart => exact ⟨0, by omega, rfl, rfl, by show ∀ q ∈ bs.take 0, _; simp⟩
  case round =>
    obtain ⟨k, hk, rfl, rfl, hI⟩ := hrel
    by_cases hlt : k < nb
    · obtain ⟨b, off, p, q, rfl, hbl, d0, d1, hp⟩ := HS0.out.get k (by rw [hn.out]; exact hlt)
      by_cases hz : p = z
      · subst hz
        have hpb : (p == p) = true := by simp
        obtain rfl : u = q := by rw [hu.out]; exact baseD_at hI.out hp.out rfl
        go_wp2_with fail
        go_ret
        exact ⟨rfl, HB0.out⟩
      · have hpb : (p == z) = false := by simpa using hz
        have HI : Hid (∀ q ∈ bs.take (k + 1), q.1 ≠ z) := by
          show ∀ q ∈ bs.take (k + 1), _
          rw [take_snocP hp.out]
          intro y hy
          rcases List.mem_append.1 hy with h | h
          · exact hI.out y h
          · obtain rfl := List.mem_singleton.1 h
            exact hz
        clear hz
        go_wp2_with fail
        go_roundw
        case rel => exact ⟨k + 1, by omega, by go_num, (by first | exact rfl | exact trivial), HI⟩
        case measure => simp [intOf]; omega
    · obtain rfl : k = nb := by omega
      obtain rfl : u = 0 := by
        rw [hu.out]
        have := hI.out
        rw [List.take_of_length_le (by rw [hn.out]; exact Nat.le_refl _)] at this
        exact baseD_none this
      go_wp2_with fail
      go_ret
      exact ⟨rfl, HB0.out⟩

set_option maxRecDepth 100000 in
set_option maxHeartbeats 4000000 in
theorem refctxcheck_any (ab ac : Option Addr) (nb kb nc kc : Nat) (bs cl : List Dot2) (hn : Hid (bs.length = nb)) (hm : nb ≤ 1000000) (hn2 : Hid (cl.length = nc)) (hm2 : nc ≤ 1000000) (r : Bool) (hr : Hid (r = true ↔ CtxP bs cl)) (E : Int) (hE : Hid (E = errno r)) (w : World) (hs : SlP w ab bs) (hs2 : SlP w ac cl) :
    Calls Tryz.prog 80 #[.agg #[.slice ab nb kb, .slice ac nc kc]] w fun e w' => e = .returned (.int .i64 E) ∧ Below w.heap.size w w' := by
  obtain ⟨w0, hw0⟩ := nm (w.alloc (.cells #[.slice ab nb kb, .slice ac nc kc] 27))
  obtain ⟨x, hx⟩ := nm w.heap.size
  have Kx : Hid (Blk w0 x #[.slice ab nb kb, .slice ac nc kc] 27) := blkN hw0.out hx.out
  have HB0 : Hid (Below w.heap.size w w0) := by rw [hw0.out]; exact bOld _
  have HS1 : Hid (SlP w0 ab bs) := hs.below HB0.out
  have HS2 : Hid (SlP w0 ac cl) := hs2.below HB0.out
  clear hs hs2
  obtain ⟨A1, hA1⟩ := nm (decide (Asc bs))
  obtain ⟨A2, hA2⟩ := nm (decide (Asc cl))
  go_enter Tryz.func80, Tryz.ntmps80
  go_upto_region 1 with fail
  rw [← hw0.out, ← hx.out]
  have c0 : w0.cell? ⟨x, 0, none⟩ = some (.slice ab nb kb) := Kx.out.cell 0
  go_wp2_with fail
  refine (refrises_any ab bs nb kb hn (by omega) _ HS1.out A1 hA1).mono ?_; rintro e w1 ⟨rfl, hB1⟩
  replace Kx := Lib.hid (Kx.out.below hB1 Kx.out.lt)
  replace HB0 := Lib.hid (bNext HB0.out hB1)
  replace HS1 := Lib.hid (HS1.out.below hB1)
  replace HS2 := Lib.hid (HS2.out.below hB1)
  clear hB1 c0 hw0
  have c1 : w1.cell? ⟨x, 1, none⟩ = some (.slice ac nc kc) := Kx.out.cell 1
  go_wp2_with fail
  refine (refrises_any ac cl nc kc hn2 (by omega) _ HS2.out A2 hA2).mono ?_; rintro e w2 ⟨rfl, hB1⟩
  replace Kx := Lib.hid (Kx.out.below hB1 Kx.out.lt)
  replace HB0 := Lib.hid (bNext HB0.out hB1)
  replace HS1 := Lib.hid (HS1.out.below hB1)
  replace HS2 := Lib.hid (HS2.out.below hB1)
  clear hB1 c1
  cases A1
  · obtain rfl : r = false := notB hr.out fun h => by have := hA1.out; rw [decide_eq_true h.asc1] at this; cases this
    obtain rfl := hE.out
    go_wp2_with fail
    go_ret
    exact ⟨rfl, HB0.out⟩
  cases A2
  · obtain rfl : r = false := notB hr.out fun h => by have := hA2.out; rw [decide_eq_true h.asc2] at this; cases this
    obtain rfl := hE.out
    go_wp2_with fail
    go_ret
    exact ⟨rfl, HB0.out⟩
  have HA1 : Hid (Asc bs) := by show Asc _; simpa using hA1.out.symm
  have HA2 : Hid (Asc cl) := by show Asc _; simpa using hA2.out.symm
  go_wp2_with fail
  go_loopw [5] (fun i wr => ∃ k : Nat, k ≤ nb ∧ i = .int .i64 (k : Int) ∧ Below w2.heap.size w2 wr ∧ Hid (Chk dotP (fun y x => y.1 ≠ x.1) bs k)) (fun i _ => nb - (intOf i).toNat)
  case atStart => exact ⟨0, by omega, rfl, Below.refl _ _, Lib.hid Chk.zero⟩
  case round =>
    obtain ⟨k, hk, rfl, hB, hI⟩ := hrel
    have c0 : wr.cell? ⟨x, 0, none⟩ = some (.slice ab nb kb) := (Kx.out.below hB Kx.out.lt).cell 0
    by_cases hlt : k < nb
    · obtain ⟨b, off, p, q, rfl, hbl, d0, d1, hp⟩ := (HS1.out.below hB).get k (by rw [hn.out]; exact hlt)
      obtain ⟨C, hC⟩ := nm (okD p q)
      go_wp2_with fail
      refine (refcheck_any p q C hC _).mono ?_; rintro e w4 ⟨rfl, hB4⟩
      have HB4 : Hid (Below w2.heap.size w2 w4) := bNext hB hB4
      have HB04 : Hid (Below w.heap.size w w4) := bNext HB0.out HB4.out
      have Kx4 : Hid (Blk w4 x #[.slice (some ⟨b, off, none⟩) nb kb, .slice ac nc kc] 27) := Kx.out.below HB4.out Kx.out.lt
      have e0 : w4.cell? ⟨b, off + k * 2, none⟩ = some (.int .i64 p) := (hB4.cell (p := ⟨b, off + k * 2, none⟩) hbl).trans d0
      have hbl4 : Hid (b < w4.heap.size) := Nat.lt_of_lt_of_le hbl hB4.size
      clear d0 d1 c0 hB4 hB
      have c0 : w4.cell? ⟨x, 0, none⟩ = some (.slice (some ⟨b, off, none⟩) nb kb) := Kx4.out.cell 0
      cases C
      · obtain rfl : r = false := notB hr.out fun h => Chk.not_g (by rw [hn.out]; exact hlt) hp.out (by unfold dotP; rw [← hC.out]; simp) h.base
        obtain rfl := hE.out
        go_wp2_with fail
        refine wp_region_noPanic ?_
        refine wp_region_held_drew (S := fun w' => w'.cell? ⟨x, 0, none⟩ = some (.slice (some ⟨b, off, none⟩) nb kb)) (by kernel_rfl) (c0) (fun hHeld => ?_)
        refine wpAnyH_take (i := 0) (v := ?_) (takeL rfl) (by kernel_rfl) (by kernel_rfl) (by kernel_rfl) (fun _ _ _ h => h) (Or.inl ⟨by rfl, ?_⟩) (by assumption) ?_
        rotate_left
        · (intro w hSw; (try dsimp only at hSw); first | (go_simp; done) | (go_simp; with_reducible rfl))
        try simp only [Act.put, List.setIfInBounds_toArray, List.set_cons_zero, List.set_cons_succ]
        refine wpAnyH_take (i := 1) (v := ?_) (takeL rfl) (by kernel_rfl) (by kernel_rfl) (by kernel_rfl) (fun _ _ _ h => h) (Or.inl ⟨by rfl, ?_⟩) (by assumption) ?_
        rotate_left
        · (intro w hSw; (try dsimp only at hSw); first | (go_simp; done) | (go_simp; with_reducible rfl))
        try simp only [Act.put, List.setIfInBounds_toArray, List.set_cons_zero, List.set_cons_succ]
        refine wpAnyH_take (i := 2) (v := ?_) (takeL rfl) (by kernel_rfl) (by kernel_rfl) (by kernel_rfl) (fun _ _ _ h => h) (Or.inl ⟨by rfl, ?_⟩) (by assumption) ?_
        rotate_left
        · (intro w hSw; (try dsimp only at hSw); first | (go_simp; done) | (go_simp; with_reducible rfl))
        try simp only [Act.put, List.setIfInBounds_toArray, List.set_cons_zero, List.set_cons_succ]
        refine wpAnyH_take (i := 3) (v := undef) (takeL rfl) (by kernel_rfl) (by kernel_rfl) (by kernel_rfl) (fun _ _ _ h => h) (Or.inr ⟨by rfl, rfl⟩) (by assumption) ?_
        try simp only [Act.put, List.setIfInBounds_toArray, List.set_cons_zero, List.set_cons_succ]
        refine wpAnyH_take (i := 4) (v := undef) (takeL rfl) (by kernel_rfl) (by kernel_rfl) (by kernel_rfl) (fun _ _ _ h => h) (Or.inr ⟨by rfl, rfl⟩) (by assumption) ?_
        try simp only [Act.put, List.setIfInBounds_toArray, List.set_cons_zero, List.set_cons_succ]
        refine wpAnyH_take (i := 5) (v := undef) (takeL rfl) (by kernel_rfl) (by kernel_rfl) (by kernel_rfl) (fun _ _ _ h => h) (Or.inr ⟨by rfl, rfl⟩) (by assumption) ?_
        try simp only [Act.put, List.setIfInBounds_toArray, List.set_cons_zero, List.set_cons_succ]
        refine wpAnyH_take (i := 6) (v := undef) (takeL rfl) (by kernel_rfl) (by kernel_rfl) (by kernel_rfl) (fun _ _ _ h => h) (Or.inr ⟨by rfl, rfl⟩) (by assumption) ?_
        try simp only [Act.put, List.setIfInBounds_toArray, List.set_cons_zero, List.set_cons_succ]
        refine wpAnyH_take (i := 7) (v := undef) (takeL rfl) (by kernel_rfl) (by kernel_rfl) (by kernel_rfl) (fun _ _ _ h => h) (Or.inr ⟨by rfl, rfl⟩) (by assumption) ?_
        try simp only [Act.put, List.setIfInBounds_toArray, List.set_cons_zero, List.set_cons_succ]
        refine wpAnyH_take (i := 8) (v := undef) (takeL rfl) (by kernel_rfl) (by kernel_rfl) (by kernel_rfl) (fun _ _ _ h => h) (Or.inr ⟨by rfl, rfl⟩) (by assumption) ?_
        try simp only [Act.put, List.setIfInBounds_toArray, List.set_cons_zero, List.set_cons_succ]
        refine wpAnyH_take (i := 9) (v := undef) (takeL rfl) (by kernel_rfl) (by kernel_rfl) (by kernel_rfl) (fun _ _ _ h => h) (Or.inr ⟨by rfl, rfl⟩) (by assumption) ?_
        try simp only [Act.put, List.setIfInBounds_toArray, List.set_cons_zero, List.set_cons_succ]
        refine wpAnyH_take (i := 10) (v := undef) (takeL rfl) (by kernel_rfl) (by kernel_rfl) (by kernel_rfl) (fun _ _ _ h => h) (Or.inr ⟨by rfl, rfl⟩) (by assumption) ?_
        try simp only [Act.put, List.setIfInBounds_toArray, List.set_cons_zero, List.set_cons_succ]
        refine wpAnyH_take (i := 11) (v := undef) (takeL rfl) (by kernel_rfl) (by kernel_rfl) (by kernel_rfl) (fun _ _ _ h => h) (Or.inr ⟨by rfl, rfl⟩) (by assumption) ?_
        try simp only [Act.put, List.setIfInBounds_toArray, List.set_cons_zero, List.set_cons_succ]
        refine wpAnyH_take (i := 12) (v := undef) (takeL rfl) (by kernel_rfl) (by kernel_rfl) (by kernel_rfl) (fun _ _ _ h => h) (Or.inr ⟨by rfl, rfl⟩) (by assumption) ?_
        try simp only [Act.put, List.setIfInBounds_toArray, List.set_cons_zero, List.set_cons_succ]
        refine wpAnyH_take (i := 13) (v := undef) (takeL rfl) (by kernel_rfl) (by kernel_rfl) (by kernel_rfl) (fun _ _ _ h => h) (Or.inr ⟨by rfl, rfl⟩) (by assumption) ?_
        try simp only [Act.put, List.setIfInBounds_toArray, List.set_cons_zero, List.set_cons_succ]
        refine wpAnyH_take (i := 14) (v := undef) (takeL rfl) (by kernel_rfl) (by kernel_rfl) (by kernel_rfl) (fun _ _ _ h => h) (Or.inr ⟨by rfl, rfl⟩) (by assumption) ?_
        try simp only [Act.put, List.setIfInBounds_toArray, List.set_cons_zero, List.set_cons_succ]
        refine wpAnyH_take (i := 15) (v := undef) (takeL rfl) (by kernel_rfl) (by kernel_rfl) (by kernel_rfl) (fun _ _ _ h => h) (Or.inr ⟨by rfl, rfl⟩) (by assumption) ?_
        try simp only [Act.put, List.setIfInBounds_toArray, List.set_cons_zero, List.set_cons_succ]
        refine wpAnyH_take (i := 16) (v := undef) (takeL rfl) (by kernel_rfl) (by kernel_rfl) (by kernel_rfl) (fun _ _ _ h => h) (Or.inr ⟨by rfl, rfl⟩) (by assumption) ?_
        try simp only [Act.put, List.setIfInBounds_toArray, List.set_cons_zero, List.set_cons_succ]
        refine wpAnyH_take (i := 17) (v := undef) (takeL rfl) (by kernel_rfl) (by kernel_rfl) (by kernel_rfl) (fun _ _ _ h => h) (Or.inr ⟨by rfl, rfl⟩) (by assumption) ?_
        try simp only [Act.put, List.setIfInBounds_toArray, List.set_cons_zero, List.set_cons_succ]
        refine wpAnyH_take (i := 18) (v := undef) (takeL rfl) (by kernel_rfl) (by kernel_rfl) (by kernel_rfl) (fun _ _ _ h => h) (Or.inr ⟨by rfl, rfl⟩) (by assumption) ?_
        try simp only [Act.put, List.setIfInBounds_toArray, List.set_cons_zero, List.set_cons_succ]
        refine wpAnyH_take (i := 19) (v := undef) (takeL rfl) (by kernel_rfl) (by kernel_rfl) (by kernel_rfl) (fun _ _ _ h => h) (Or.inr ⟨by rfl, rfl⟩) (by assumption) ?_
        try simp only [Act.put, List.setIfInBounds_toArray, List.set_cons_zero, List.set_cons_succ]
        refine wpAnyH_take (i := 20) (v := undef) (takeL rfl) (by kernel_rfl) (by kernel_rfl) (by kernel_rfl) (fun _ _ _ h => h) (Or.inr ⟨by rfl, rfl⟩) (by assumption) ?_
        try simp only [Act.put, List.setIfInBounds_toArray, List.set_cons_zero, List.set_cons_succ]
        refine wpAnyH_take (i := 21) (v := ?_) (takeL rfl) (by kernel_rfl) (by kernel_rfl) (by kernel_rfl) (fun _ _ _ h => h) (Or.inl ⟨by rfl, ?_⟩) (by assumption) ?_
        rotate_left
        · (intro w hSw; (try dsimp only at hSw); first | (go_simp; done) | (go_simp; with_reducible rfl))
        try simp only [Act.put, List.setIfInBounds_toArray, List.set_cons_zero, List.set_cons_succ]
        refine wpAnyH_done (by kernel_rfl) ?_ _
        refine NoPanic.normal ?_
        go_wp2_with fail
        go_ret
        exact ⟨rfl, bDrew HB04.out⟩
      · by_cases hk0 : k = 0
        · have hk2 : decide (0 < k) = false := decide_eq_false (by omega)
          have hk3 : decide ((0 : Int) < (k : Int)) = false := decide_eq_false (by omega)
          have HI : Hid (Chk dotP (fun y x => y.1 ≠ x.1) bs (k + 1)) := by
            show Chk _ _ _ _
            subst hk0
            exact Chk.first hp.out hC.out.symm
          clear hk0
          go_wp2_with fail
          refine wp_region_noPanic ?_
          refine wp_region_held_drew (S := fun w' => w'.cell? ⟨x, 0, none⟩ = some (.slice (some ⟨b, off, none⟩) nb kb)) (by kernel_rfl) (c0) (fun hHeld => ?_)
          refine wpAnyH_take (i := 0) (v := ?_) (takeL rfl) (by kernel_rfl) (by kernel_rfl) (by kernel_rfl) (fun _ _ _ h => h) (Or.inl ⟨by rfl, ?_⟩) (by assumption) ?_
          rotate_left
          · (intro w hSw; (try dsimp only at hSw); first | (go_simp; done) | (go_simp; with_reducible rfl))
          try simp only [Act.put, List.setIfInBounds_toArray, List.set_cons_zero, List.set_cons_succ]
          refine wpAnyH_take (i := 1) (v := ?_) (takeL rfl) (by kernel_rfl) (by kernel_rfl) (by kernel_rfl) (fun _ _ _ h => h) (Or.inl ⟨by rfl, ?_⟩) (by assumption) ?_
          rotate_left
          · (intro w hSw; (try dsimp only at hSw); first | (go_simp; done) | (go_simp; with_reducible rfl))
          try simp only [Act.put, List.setIfInBounds_toArray, List.set_cons_zero, List.set_cons_succ]
          refine wpAnyH_take (i := 2) (v := ?_) (takeL rfl) (by kernel_rfl) (by kernel_rfl) (by kernel_rfl) (fun _ _ _ h => h) (Or.inl ⟨by rfl, ?_⟩) (by assumption) ?_
          rotate_left
          · (intro w hSw; (try dsimp only at hSw); first | (go_simp; done) | (go_simp; with_reducible rfl))
          try simp only [Act.put, List.setIfInBounds_toArray, List.set_cons_zero, List.set_cons_succ]
          refine wpAnyH_take (i := 3) (v := ?_) (takeL rfl) (by kernel_rfl) (by kernel_rfl) (by kernel_rfl) (fun _ _ _ h => h) (Or.inl ⟨by rfl, ?_⟩) (by assumption) ?_
          rotate_left
          · (intro w hSw; (try dsimp only at hSw); first | (go_simp; done) | (go_simp; with_reducible rfl))
          try simp only [Act.put, List.setIfInBounds_toArray, List.set_cons_zero, List.set_cons_succ]
          refine wpAnyH_take (i := 4) (v := ?_) (takeL rfl) (by kernel_rfl) (by kernel_rfl) (by kernel_rfl) (fun _ _ _ h => h) (Or.inl ⟨by rfl, ?_⟩) (by assumption) ?_
          rotate_left
          · (intro w hSw; (try dsimp only at hSw); first | (go_simp; done) | (go_simp; with_reducible rfl))
          try simp only [Act.put, List.setIfInBounds_toArray, List.set_cons_zero, List.set_cons_succ]
          refine wpAnyH_take (i := 5) (v := ?_) (takeL rfl) (by kernel_rfl) (by kernel_rfl) (by kernel_rfl) (fun _ _ _ h => h) (Or.inl ⟨by rfl, ?_⟩) (by assumption) ?_
          rotate_left
          · (intro w hSw; (try dsimp only at hSw); first | (go_simp; done) | (go_simp; with_reducible rfl))
          try simp only [Act.put, List.setIfInBounds_toArray, List.set_cons_zero, List.set_cons_succ]
          refine wpAnyH_take (i := 6) (v := undef) (takeL rfl) (by kernel_rfl) (by kernel_rfl) (by kernel_rfl) (fun _ _ _ h => h) (Or.inr ⟨by rfl, rfl⟩) (by assumption) ?_
          try simp only [Act.put, List.setIfInBounds_toArray, List.set_cons_zero, List.set_cons_succ]
          refine wpAnyH_take (i := 7) (v := undef) (takeL rfl) (by kernel_rfl) (by kernel_rfl) (by kernel_rfl) (fun _ _ _ h => h) (Or.inr ⟨by rfl, rfl⟩) (by assumption) ?_
          try simp only [Act.put, List.setIfInBounds_toArray, List.set_cons_zero, List.set_cons_succ]
          refine wpAnyH_take (i := 8) (v := undef) (takeL rfl) (by kernel_rfl) (by kernel_rfl) (by kernel_rfl) (fun _ _ _ h => h) (Or.inr ⟨by rfl, rfl⟩) (by assumption) ?_
          try simp only [Act.put, List.setIfInBounds_toArray, List.set_cons_zero, List.set_cons_succ]
          refine wpAnyH_take (i := 9) (v := undef) (takeL rfl) (by kernel_rfl) (by kernel_rfl) (by kernel_rfl) (fun _ _ _ h => h) (Or.inr ⟨by rfl, rfl⟩) (by assumption) ?_
          try simp only [Act.put, List.setIfInBounds_toArray, List.set_cons_zero, List.set_cons_succ]
          refine wpAnyH_take (i := 10) (v := undef) (takeL rfl) (by kernel_rfl) (by kernel_rfl) (by kernel_rfl) (fun _ _ _ h => h) (Or.inr ⟨by rfl, rfl⟩) (by assumption) ?_
          try simp only [Act.put, List.setIfInBounds_toArray, List.set_cons_zero, List.set_cons_succ]
          refine wpAnyH_take (i := 11) (v := undef) (takeL rfl) (by kernel_rfl) (by kernel_rfl) (by kernel_rfl) (fun _ _ _ h => h) (Or.inr ⟨by rfl, rfl⟩) (by assumption) ?_
          try simp only [Act.put, List.setIfInBounds_toArray, List.set_cons_zero, List.set_cons_succ]
          refine wpAnyH_take (i := 12) (v := undef) (takeL rfl) (by kernel_rfl) (by kernel_rfl) (by kernel_rfl) (fun _ _ _ h => h) (Or.inr ⟨by rfl, rfl⟩) (by assumption) ?_
          try simp only [Act.put, List.setIfInBounds_toArray, List.set_cons_zero, List.set_cons_succ]
          refine wpAnyH_take (i := 13) (v := undef) (takeL rfl) (by kernel_rfl) (by kernel_rfl) (by kernel_rfl) (fun _ _ _ h => h) (Or.inr ⟨by rfl, rfl⟩) (by assumption) ?_
          try simp only [Act.put, List.setIfInBounds_toArray, List.set_cons_zero, List.set_cons_succ]
          refine wpAnyH_take (i := 14) (v := undef) (takeL rfl) (by kernel_rfl) (by kernel_rfl) (by kernel_rfl) (fun _ _ _ h => h) (Or.inr ⟨by rfl, rfl⟩) (by assumption) ?_
          try simp only [Act.put, List.setIfInBounds_toArray, List.set_cons_zero, List.set_cons_succ]
          refine wpAnyH_take (i := 15) (v := undef) (takeL rfl) (by kernel_rfl) (by kernel_rfl) (by kernel_rfl) (fun _ _ _ h => h) (Or.inr ⟨by rfl, rfl⟩) (by assumption) ?_
          try simp only [Act.put, List.setIfInBounds_toArray, List.set_cons_zero, List.set_cons_succ]
          refine wpAnyH_take (i := 16) (v := undef) (takeL rfl) (by kernel_rfl) (by kernel_rfl) (by kernel_rfl) (fun _ _ _ h => h) (Or.inr ⟨by rfl, rfl⟩) (by assumption) ?_
          try simp only [Act.put, List.setIfInBounds_toArray, List.set_cons_zero, List.set_cons_succ]
          refine wpAnyH_take (i := 17) (v := undef) (takeL rfl) (by kernel_rfl) (by kernel_rfl) (by kernel_rfl) (fun _ _ _ h => h) (Or.inr ⟨by rfl, rfl⟩) (by assumption) ?_
          try simp only [Act.put, List.setIfInBounds_toArray, List.set_cons_zero, List.set_cons_succ]
          refine wpAnyH_take (i := 18) (v := undef) (takeL rfl) (by kernel_rfl) (by kernel_rfl) (by kernel_rfl) (fun _ _ _ h => h) (Or.inr ⟨by rfl, rfl⟩) (by assumption) ?_
          try simp only [Act.put, List.setIfInBounds_toArray, List.set_cons_zero, List.set_cons_succ]
          refine wpAnyH_take (i := 19) (v := undef) (takeL rfl) (by kernel_rfl) (by kernel_rfl) (by kernel_rfl) (fun _ _ _ h => h) (Or.inr ⟨by rfl, rfl⟩) (by assumption) ?_
          try simp only [Act.put, List.setIfInBounds_toArray, List.set_cons_zero, List.set_cons_succ]
          refine wpAnyH_take (i := 20) (v := ?_) (takeL rfl) (by kernel_rfl) (by kernel_rfl) (by kernel_rfl) (fun _ _ _ h => h) (Or.inl ⟨by rfl, ?_⟩) (by assumption) ?_
          rotate_left
          · (intro w hSw; (try dsimp only at hSw); first | (go_simp; done) | (go_simp; with_reducible rfl))
          try simp only [Act.put, List.setIfInBounds_toArray, List.set_cons_zero, List.set_cons_succ]
          refine wpAnyH_take (i := 21) (v := ?_) (takeL rfl) (by kernel_rfl) (by kernel_rfl) (by kernel_rfl) (fun _ _ _ h => h) (Or.inl ⟨by rfl, ?_⟩) (by assumption) ?_
          rotate_left
          · (intro w hSw; (try dsimp only at hSw); first | (go_simp; done) | (go_simp; with_reducible rfl))
          try simp only [Act.put, List.setIfInBounds_toArray, List.set_cons_zero, List.set_cons_succ]
          refine wpAnyH_done (by kernel_rfl) ?_ _
          refine NoPanic.normal ?_
          go_wp2_with fail
          go_roundw
          case rel => exact ⟨k + 1, by omega, by go_num, bDrew HB4.out, HI⟩
          case measure => simp [intOf]; omega
        · obtain ⟨m, hkm⟩ : ∃ m, k = m + 1 := ⟨k - 1, by omega⟩
          have hmk : m < k := by omega
          have hmn : m < nb := by omega
          have hwm : IntKind.i64.wrap ((k : Int) - 1) = (m : Int) := by rw [IntKind.wrap_i64]; omega
          have hk1 : 0 < k := by omega
          have hk2 : decide (0 < k) = true := decide_eq_true hk1
          have hk3 : decide ((0 : Int) < (k : Int)) = true := decide_eq_true (by omega)
          obtain ⟨b', off', p', q', hb', hbl', f0, _, hp'⟩ := (HS1.out.below HB4.out).get m (by rw [hn.out]; exact hmn)
          cases hb'
          obtain ⟨N, hN⟩ := nm (p' == p)
          have hN2 : (p' == p) = N := hN.out.symm
          have HKM : Hid (k = m + 1) := hkm
          clear hkm hk0
          go_wp2_with fail
          cases N
          · have HI : Hid (Chk dotP (fun y x => y.1 ≠ x.1) bs (k + 1)) := by
              show Chk _ _ _ _
              have h1 := hI.out
              have h2 := hp.out
              rw [HKM.out] at h1 h2 ⊢
              exact Chk.next h1 h2 hC.out.symm hp'.out (by simpa using hN2)
            refine wp_region_noPanic ?_
            refine wp_region_held_drew (S := fun w' => w'.cell? ⟨x, 0, none⟩ = some (.slice (some ⟨b, off, none⟩) nb kb) ∧ w'.cell? ⟨b, off + k * 2, none⟩ = some (.int .i64 p) ∧ w'.cell? ⟨b, off + m * 2, none⟩ = some (.int .i64 p')) (by kernel_rfl) (⟨c0, e0, f0⟩) (fun hHeld => ?_)
            refine wpAnyH_take (i := 0) (v := ?_) (takeL rfl) (by kernel_rfl) (by kernel_rfl) (by kernel_rfl) (fun _ _ _ h => h) (Or.inl ⟨by rfl, ?_⟩) (by assumption) ?_
            rotate_left
            · (intro w hSw; (try dsimp only at hSw); first | (go_simp; done) | (go_simp; with_reducible rfl))
            try simp only [Act.put, List.setIfInBounds_toArray, List.set_cons_zero, List.set_cons_succ]
            refine wpAnyH_take (i := 1) (v := ?_) (takeL rfl) (by kernel_rfl) (by kernel_rfl) (by kernel_rfl) (fun _ _ _ h => h) (Or.inl ⟨by rfl, ?_⟩) (by assumption) ?_
            rotate_left
            · (intro w hSw; (try dsimp only at hSw); first | (go_simp; done) | (go_simp; with_reducible rfl))
            try simp only [Act.put, List.setIfInBounds_toArray, List.set_cons_zero, List.set_cons_succ]
            refine wpAnyH_take (i := 2) (v := ?_) (takeL rfl) (by kernel_rfl) (by kernel_rfl) (by kernel_rfl) (fun _ _ _ h => h) (Or.inl ⟨by rfl, ?_⟩) (by assumption) ?_
            rotate_left
            · (intro w hSw; (try dsimp only at hSw); first | (go_simp; done) | (go_simp; with_reducible rfl))
            try simp only [Act.put, List.setIfInBounds_toArray, List.set_cons_zero, List.set_cons_succ]
            refine wpAnyH_take (i := 3) (v := ?_) (takeL rfl) (by kernel_rfl) (by kernel_rfl) (by kernel_rfl) (fun _ _ _ h => h) (Or.inl ⟨by rfl, ?_⟩) (by assumption) ?_
            rotate_left
            · (intro w hSw; (try dsimp only at hSw); first | (go_simp; done) | (go_simp; with_reducible rfl))
            try simp only [Act.put, List.setIfInBounds_toArray, List.set_cons_zero, List.set_cons_succ]
            refine wpAnyH_take (i := 4) (v := ?_) (takeL rfl) (by kernel_rfl) (by kernel_rfl) (by kernel_rfl) (fun _ _ _ h => h) (Or.inl ⟨by rfl, ?_⟩) (by assumption) ?_
            rotate_left
            · (intro w hSw; (try dsimp only at hSw); first | (go_simp; done) | (go_simp; with_reducible rfl))
            try simp only [Act.put, List.setIfInBounds_toArray, List.set_cons_zero, List.set_cons_succ]
            refine wpAnyH_take (i := 5) (v := ?_) (takeL rfl) (by kernel_rfl) (by kernel_rfl) (by kernel_rfl) (fun _ _ _ h => h) (Or.inl ⟨by rfl, ?_⟩) (by assumption) ?_
            rotate_left
            · (intro w hSw; (try dsimp only at hSw); first | (go_simp; done) | (go_simp; with_reducible rfl))
            try simp only [Act.put, List.setIfInBounds_toArray, List.set_cons_zero, List.set_cons_succ]
            refine wpAnyH_take (i := 6) (v := ?_) (takeL rfl) (by kernel_rfl) (by kernel_rfl) (by kernel_rfl) (fun _ _ _ h => h) (Or.inl ⟨by rfl, ?_⟩) (by assumption) ?_
            rotate_left
            · (intro w hSw; (try dsimp only at hSw); first | (go_simp; done) | (go_simp; with_reducible rfl))
            try simp only [Act.put, List.setIfInBounds_toArray, List.set_cons_zero, List.set_cons_succ]
            refine wpAnyH_take (i := 7) (v := ?_) (takeL rfl) (by kernel_rfl) (by kernel_rfl) (by kernel_rfl) (fun _ _ _ h => h) (Or.inl ⟨by rfl, ?_⟩) (by assumption) ?_
            rotate_left
            · (intro w hSw; (try dsimp only at hSw); first | (go_simp; done) | (go_simp; with_reducible rfl))
            try simp only [Act.put, List.setIfInBounds_toArray, List.set_cons_zero, List.set_cons_succ]
            refine wpAnyH_take (i := 8) (v := ?_) (takeL rfl) (by kernel_rfl) (by kernel_rfl) (by kernel_rfl) (fun _ _ _ h => h) (Or.inl ⟨by rfl, ?_⟩) (by assumption) ?_
            rotate_left
            · (intro w hSw; (try dsimp only at hSw); first | (go_simp; done) | (go_simp; with_reducible rfl))
            try simp only [Act.put, List.setIfInBounds_toArray, List.set_cons_zero, List.set_cons_succ]
            refine wpAnyH_take (i := 9) (v := ?_) (takeL rfl) (by kernel_rfl) (by kernel_rfl) (by kernel_rfl) (fun _ _ _ h => h) (Or.inl ⟨by rfl, ?_⟩) (by assumption) ?_
            rotate_left
            · (intro w hSw; (try dsimp only at hSw); first | (go_simp; done) | (go_simp; with_reducible rfl))
            try simp only [Act.put, List.setIfInBounds_toArray, List.set_cons_zero, List.set_cons_succ]
            refine wpAnyH_take (i := 10) (v := ?_) (takeL rfl) (by kernel_rfl) (by kernel_rfl) (by kernel_rfl) (fun _ _ _ h => h) (Or.inl ⟨by rfl, ?_⟩) (by assumption) ?_
            rotate_left
            · (intro w hSw; (try dsimp only at hSw); first | (go_simp; done) | (go_simp; with_reducible rfl))
            try simp only [Act.put, List.setIfInBounds_toArray, List.set_cons_zero, List.set_cons_succ]
            refine wpAnyH_take (i := 11) (v := ?_) (takeL rfl) (by kernel_rfl) (by kernel_rfl) (by kernel_rfl) (fun _ _ _ h => h) (Or.inl ⟨by rfl, ?_⟩) (by assumption) ?_
            rotate_left
            · (intro w hSw; (try dsimp only at hSw); first | (go_simp; done) | (go_simp; with_reducible rfl))
            try simp only [Act.put, List.setIfInBounds_toArray, List.set_cons_zero, List.set_cons_succ]
            refine wpAnyH_take (i := 12) (v := ?_) (takeL rfl) (by kernel_rfl) (by kernel_rfl) (by kernel_rfl) (fun _ _ _ h => h) (Or.inl ⟨by rfl, ?_⟩) (by assumption) ?_
            rotate_left
            · (intro w hSw; (try dsimp only at hSw); first | (go_simp; done) | (go_simp; with_reducible rfl))
            try simp only [Act.put, List.setIfInBounds_toArray, List.set_cons_zero, List.set_cons_succ]
            refine wpAnyH_take (i := 13) (v := ?_) (takeL rfl) (by kernel_rfl) (by kernel_rfl) (by kernel_rfl) (fun _ _ _ h => h) (Or.inl ⟨by rfl, ?_⟩) (by assumption) ?_
            rotate_left
            · (intro w hSw; (try dsimp only at hSw); first | (go_simp; done) | (go_simp; with_reducible rfl))
            try simp only [Act.put, List.setIfInBounds_toArray, List.set_cons_zero, List.set_cons_succ]
            refine wpAnyH_take (i := 14) (v := ?_) (takeL rfl) (by kernel_rfl) (by kernel_rfl) (by kernel_rfl) (fun _ _ _ h => h) (Or.inl ⟨by rfl, ?_⟩) (by assumption) ?_
            rotate_left
            · (intro w hSw; (try dsimp only at hSw); first | (go_simp; done) | (go_simp; with_reducible rfl))
            try simp only [Act.put, List.setIfInBounds_toArray, List.set_cons_zero, List.set_cons_succ]
            refine wpAnyH_take (i := 15) (v := ?_) (takeL rfl) (by kernel_rfl) (by kernel_rfl) (by kernel_rfl) (fun _ _ _ h => h) (Or.inl ⟨by rfl, ?_⟩) (by assumption) ?_
            rotate_left
            · (intro w hSw; (try dsimp only at hSw); first | (go_simp; done) | (go_simp; with_reducible rfl))
            try simp only [Act.put, List.setIfInBounds_toArray, List.set_cons_zero, List.set_cons_succ]
            refine wpAnyH_take (i := 16) (v := ?_) (takeL rfl) (by kernel_rfl) (by kernel_rfl) (by kernel_rfl) (fun _ _ _ h => h) (Or.inl ⟨by rfl, ?_⟩) (by assumption) ?_
            rotate_left
            · (intro w hSw; (try dsimp only at hSw); first | (go_simp; done) | (go_simp; with_reducible rfl))
            try simp only [Act.put, List.setIfInBounds_toArray, List.set_cons_zero, List.set_cons_succ]
            refine wpAnyH_take (i := 17) (v := ?_) (takeL rfl) (by kernel_rfl) (by kernel_rfl) (by kernel_rfl) (fun _ _ _ h => h) (Or.inl ⟨by rfl, ?_⟩) (by assumption) ?_
            rotate_left
            · (intro w hSw; (try dsimp only at hSw); first | (go_simp; done) | (go_simp; with_reducible rfl))
            try simp only [Act.put, List.setIfInBounds_toArray, List.set_cons_zero, List.set_cons_succ]
            refine wpAnyH_take (i := 18) (v := ?_) (takeL rfl) (by kernel_rfl) (by kernel_rfl) (by kernel_rfl) (fun _ _ _ h => h) (Or.inl ⟨by rfl, ?_⟩) (by assumption) ?_
            rotate_left
            · (intro w hSw; (try dsimp only at hSw); first | (go_simp; done) | (go_simp; with_reducible rfl))
            try simp only [Act.put, List.setIfInBounds_toArray, List.set_cons_zero, List.set_cons_succ]
            refine wpAnyH_take (i := 19) (v := ?_) (takeL rfl) (by kernel_rfl) (by kernel_rfl) (by kernel_rfl) (fun _ _ _ h => h) (Or.inl ⟨by rfl, ?_⟩) (by assumption) ?_
            rotate_left
            · (intro w hSw; (try dsimp only at hSw); first | (go_simp; done) | (go_simp; with_reducible rfl))
            try simp only [Act.put, List.setIfInBounds_toArray, List.set_cons_zero, List.set_cons_succ]
            refine wpAnyH_take (i := 20) (v := ?_) (takeL rfl) (by kernel_rfl) (by kernel_rfl) (by kernel_rfl) (fun _ _ _ h => h) (Or.inl ⟨by rfl, ?_⟩) (by assumption) ?_
            rotate_left
            · (intro w hSw; (try dsimp only at hSw); first | (go_simp; done) | (go_simp; with_reducible rfl))
            try simp only [Act.put, List.setIfInBounds_toArray, List.set_cons_zero, List.set_cons_succ]
            refine wpAnyH_take (i := 21) (v := ?_) (takeL rfl) (by kernel_rfl) (by kernel_rfl) (by kernel_rfl) (fun _ _ _ h => h) (Or.inl ⟨by rfl, ?_⟩) (by assumption) ?_
            rotate_left
            · (intro w hSw; (try dsimp only at hSw); first | (go_simp; done) | (go_simp; with_reducible rfl))
            try simp only [Act.put, List.setIfInBounds_toArray, List.set_cons_zero, List.set_cons_succ]
            refine wpAnyH_done (by kernel_rfl) ?_ _
            refine NoPanic.normal ?_
            go_wp2_with fail
            go_roundw
            case rel => exact ⟨k + 1, by omega, by go_num, bDrew HB4.out, HI⟩
            case measure => simp [intOf]; omega
          · obtain rfl : r = false := notB hr.out fun h => by
              have h2 := hp.out
              have h3 := hlt
              rw [HKM.out] at h2 h3
              exact Chk.not_r (r := fun y x => y.1 ≠ x.1) (by rw [hn.out]; exact h3) h2 hp'.out (by simpa using hN2) h.base
            obtain rfl := hE.out
            refine wp_region_noPanic ?_
            refine wp_region_held_drew (S := fun w' => w'.cell? ⟨x, 0, none⟩ = some (.slice (some ⟨b, off, none⟩) nb kb) ∧ w'.cell? ⟨b, off + k * 2, none⟩ = some (.int .i64 p) ∧ w'.cell? ⟨b, off + m * 2, none⟩ = some (.int .i64 p')) (by kernel_rfl) (⟨c0, e0, f0⟩) (fun hHeld => ?_)
            refine wpAnyH_take (i := 0) (v := ?_) (takeL rfl) (by kernel_rfl) (by kernel_rfl) (by kernel_rfl) (fun _ _ _ h => h) (Or.inl ⟨by rfl, ?_⟩) (by assumption) ?_
            rotate_left
            · (intro w hSw; (try dsimp only at hSw); first | (go_simp; done) | (go_simp; with_reducible rfl))
            try simp only [Act.put, List.setIfInBounds_toArray, List.set_cons_zero, List.set_cons_succ]
            refine wpAnyH_take (i := 1) (v := ?_) (takeL rfl) (by kernel_rfl) (by kernel_rfl) (by kernel_rfl) (fun _ _ _ h => h) (Or.inl ⟨by rfl, ?_⟩) (by assumption) ?_
            rotate_left
            · (intro w hSw; (try dsimp only at hSw); first | (go_simp; done) | (go_simp; with_reducible rfl))
            try simp only [Act.put, List.setIfInBounds_toArray, List.set_cons_zero, List.set_cons_succ]
            refine wpAnyH_take (i := 2) (v := ?_) (takeL rfl) (by kernel_rfl) (by kernel_rfl) (by kernel_rfl) (fun _ _ _ h => h) (Or.inl ⟨by rfl, ?_⟩) (by assumption) ?_
            rotate_left
            · (intro w hSw; (try dsimp only at hSw); first | (go_simp; done) | (go_simp; with_reducible rfl))
            try simp only [Act.put, List.setIfInBounds_toArray, List.set_cons_zero, List.set_cons_succ]
            refine wpAnyH_take (i := 3) (v := ?_) (takeL rfl) (by kernel_rfl) (by kernel_rfl) (by kernel_rfl) (fun _ _ _ h => h) (Or.inl ⟨by rfl, ?_⟩) (by assumption) ?_
            rotate_left
            · (intro w hSw; (try dsimp only at hSw); first | (go_simp; done) | (go_simp; with_reducible rfl))
            try simp only [Act.put, List.setIfInBounds_toArray, List.set_cons_zero, List.set_cons_succ]
            refine wpAnyH_take (i := 4) (v := ?_) (takeL rfl) (by kernel_rfl) (by kernel_rfl) (by kernel_rfl) (fun _ _ _ h => h) (Or.inl ⟨by rfl, ?_⟩) (by assumption) ?_
            rotate_left
            · (intro w hSw; (try dsimp only at hSw); first | (go_simp; done) | (go_simp; with_reducible rfl))
            try simp only [Act.put, List.setIfInBounds_toArray, List.set_cons_zero, List.set_cons_succ]
            refine wpAnyH_take (i := 5) (v := ?_) (takeL rfl) (by kernel_rfl) (by kernel_rfl) (by kernel_rfl) (fun _ _ _ h => h) (Or.inl ⟨by rfl, ?_⟩) (by assumption) ?_
            rotate_left
            · (intro w hSw; (try dsimp only at hSw); first | (go_simp; done) | (go_simp; with_reducible rfl))
            try simp only [Act.put, List.setIfInBounds_toArray, List.set_cons_zero, List.set_cons_succ]
            refine wpAnyH_take (i := 6) (v := ?_) (takeL rfl) (by kernel_rfl) (by kernel_rfl) (by kernel_rfl) (fun _ _ _ h => h) (Or.inl ⟨by rfl, ?_⟩) (by assumption) ?_
            rotate_left
            · (intro w hSw; (try dsimp only at hSw); first | (go_simp; done) | (go_simp; with_reducible rfl))
            try simp only [Act.put, List.setIfInBounds_toArray, List.set_cons_zero, List.set_cons_succ]
            refine wpAnyH_take (i := 7) (v := ?_) (takeL rfl) (by kernel_rfl) (by kernel_rfl) (by kernel_rfl) (fun _ _ _ h => h) (Or.inl ⟨by rfl, ?_⟩) (by assumption) ?_
            rotate_left
            · (intro w hSw; (try dsimp only at hSw); first | (go_simp; done) | (go_simp; with_reducible rfl))
            try simp only [Act.put, List.setIfInBounds_toArray, List.set_cons_zero, List.set_cons_succ]
            refine wpAnyH_take (i := 8) (v := ?_) (takeL rfl) (by kernel_rfl) (by kernel_rfl) (by kernel_rfl) (fun _ _ _ h => h) (Or.inl ⟨by rfl, ?_⟩) (by assumption) ?_
            rotate_left
            · (intro w hSw; (try dsimp only at hSw); first | (go_simp; done) | (go_simp; with_reducible rfl))
            try simp only [Act.put, List.setIfInBounds_toArray, List.set_cons_zero, List.set_cons_succ]
            refine wpAnyH_take (i := 9) (v := ?_) (takeL rfl) (by kernel_rfl) (by kernel_rfl) (by kernel_rfl) (fun _ _ _ h => h) (Or.inl ⟨by rfl, ?_⟩) (by assumption) ?_
            rotate_left
            · (intro w hSw; (try dsimp only at hSw); first | (go_simp; done) | (go_simp; with_reducible rfl))
            try simp only [Act.put, List.setIfInBounds_toArray, List.set_cons_zero, List.set_cons_succ]
            refine wpAnyH_take (i := 10) (v := ?_) (takeL rfl) (by kernel_rfl) (by kernel_rfl) (by kernel_rfl) (fun _ _ _ h => h) (Or.inl ⟨by rfl, ?_⟩) (by assumption) ?_
            rotate_left
            · (intro w hSw; (try dsimp only at hSw); first | (go_simp; done) | (go_simp; with_reducible rfl))
            try simp only [Act.put, List.setIfInBounds_toArray, List.set_cons_zero, List.set_cons_succ]
            refine wpAnyH_take (i := 11) (v := ?_) (takeL rfl) (by kernel_rfl) (by kernel_rfl) (by kernel_rfl) (fun _ _ _ h => h) (Or.inl ⟨by rfl, ?_⟩) (by assumption) ?_
            rotate_left
            · (intro w hSw; (try dsimp only at hSw); first | (go_simp; done) | (go_simp; with_reducible rfl))
            try simp only [Act.put, List.setIfInBounds_toArray, List.set_cons_zero, List.set_cons_succ]
            refine wpAnyH_take (i := 12) (v := ?_) (takeL rfl) (by kernel_rfl) (by kernel_rfl) (by kernel_rfl) (fun _ _ _ h => h) (Or.inl ⟨by rfl, ?_⟩) (by assumption) ?_
            rotate_left
            · (intro w hSw; (try dsimp only at hSw); first | (go_simp; done) | (go_simp; with_reducible rfl))
            try simp only [Act.put, List.setIfInBounds_toArray, List.set_cons_zero, List.set_cons_succ]
            refine wpAnyH_take (i := 13) (v := ?_) (takeL rfl) (by kernel_rfl) (by kernel_rfl) (by kernel_rfl) (fun _ _ _ h => h) (Or.inl ⟨by rfl, ?_⟩) (by assumption) ?_
            rotate_left
            · (intro w hSw; (try dsimp only at hSw); first | (go_simp; done) | (go_simp; with_reducible rfl))
            try simp only [Act.put, List.setIfInBounds_toArray, List.set_cons_zero, List.set_cons_succ]
            refine wpAnyH_take (i := 14) (v := ?_) (takeL rfl) (by kernel_rfl) (by kernel_rfl) (by kernel_rfl) (fun _ _ _ h => h) (Or.inl ⟨by rfl, ?_⟩) (by assumption) ?_
            rotate_left
            · (intro w hSw; (try dsimp only at hSw); first | (go_simp; done) | (go_simp; with_reducible rfl))
            try simp only [Act.put, List.setIfInBounds_toArray, List.set_cons_zero, List.set_cons_succ]
            refine wpAnyH_take (i := 15) (v := ?_) (takeL rfl) (by kernel_rfl) (by kernel_rfl) (by kernel_rfl) (fun _ _ _ h => h) (Or.inl ⟨by rfl, ?_⟩) (by assumption) ?_
            rotate_left
            · (intro w hSw; (try dsimp only at hSw); first | (go_simp; done) | (go_simp; with_reducible rfl))
            try simp only [Act.put, List.setIfInBounds_toArray, List.set_cons_zero, List.set_cons_succ]
            refine wpAnyH_take (i := 16) (v := ?_) (takeL rfl) (by kernel_rfl) (by kernel_rfl) (by kernel_rfl) (fun _ _ _ h => h) (Or.inl ⟨by rfl, ?_⟩) (by assumption) ?_
            rotate_left
            · (intro w hSw; (try dsimp only at hSw); first | (go_simp; done) | (go_simp; with_reducible rfl))
            try simp only [Act.put, List.setIfInBounds_toArray, List.set_cons_zero, List.set_cons_succ]
            refine wpAnyH_take (i := 17) (v := ?_) (takeL rfl) (by kernel_rfl) (by kernel_rfl) (by kernel_rfl) (fun _ _ _ h => h) (Or.inl ⟨by rfl, ?_⟩) (by assumption) ?_
            rotate_left
            · (intro w hSw; (try dsimp only at hSw); first | (go_simp; done) | (go_simp; with_reducible rfl))
            try simp only [Act.put, List.setIfInBounds_toArray, List.set_cons_zero, List.set_cons_succ]
            refine wpAnyH_take (i := 18) (v := ?_) (takeL rfl) (by kernel_rfl) (by kernel_rfl) (by kernel_rfl) (fun _ _ _ h => h) (Or.inl ⟨by rfl, ?_⟩) (by assumption) ?_
            rotate_left
            · (intro w hSw; (try dsimp only at hSw); first | (go_simp; done) | (go_simp; with_reducible rfl))
            try simp only [Act.put, List.setIfInBounds_toArray, List.set_cons_zero, List.set_cons_succ]
            refine wpAnyH_take (i := 19) (v := ?_) (takeL rfl) (by kernel_rfl) (by kernel_rfl) (by kernel_rfl) (fun _ _ _ h => h) (Or.inl ⟨by rfl, ?_⟩) (by assumption) ?_
            rotate_left
            · (intro w hSw; (try dsimp only at hSw); first | (go_simp; done) | (go_simp; with_reducible rfl))
            try simp only [Act.put, List.setIfInBounds_toArray, List.set_cons_zero, List.set_cons_succ]
            refine wpAnyH_take (i := 20) (v := ?_) (takeL rfl) (by kernel_rfl) (by kernel_rfl) (by kernel_rfl) (fun _ _ _ h => h) (Or.inl ⟨by rfl, ?_⟩) (by assumption) ?_
            rotate_left
            · (intro w hSw; (try dsimp only at hSw); first | (go_simp; done) | (go_simp; with_reducible rfl))
            try simp only [Act.put, List.setIfInBounds_toArray, List.set_cons_zero, List.set_cons_succ]
            refine wpAnyH_take (i := 21) (v := ?_) (takeL rfl) (by kernel_rfl) (by kernel_rfl) (by kernel_rfl) (fun _ _ _ h => h) (Or.inl ⟨by rfl, ?_⟩) (by assumption) ?_
            rotate_left
            · (intro w hSw; (try dsimp only at hSw); first | (go_simp; done) | (go_simp; with_reducible rfl))
            try simp only [Act.put, List.setIfInBounds_toArray, List.set_cons_zero, List.set_cons_succ]
            refine wpAnyH_done (by kernel_rfl) ?_ _
            refine NoPanic.normal ?_
            go_wp2_with fail
            go_ret
            exact ⟨rfl, bDrew HB04.out⟩
    · obtain rfl : k = nb := by omega
      rename World => wE
      replace Kx := Lib.hid (Kx.out.below hB Kx.out.lt)
      replace HB0 := Lib.hid (bNext HB0.out hB)
      replace HS1 := Lib.hid (HS1.out.below hB)
      replace HS2 := Lib.hid (HS2.out.below hB)
      have HBS : Hid (Chk dotP (fun y x => y.1 ≠ x.1) bs bs.length) := by rw [hn.out]; exact hI.out
      have HBA : Hid (∀ x ∈ bs, dotP x) := HBS.out.all (Nat.le_refl _)
      have HBU : Hid (∀ z, baseD bs z = uptoD bs z) := base_upto HA1.out HBA.out
      clear hB hI
      go_wp2_with fail
      clear c0
      go_loopw [7] (fun i wr => ∃ k : Nat, k ≤ nc ∧ i = .int .i64 (k : Int) ∧ Below wE.heap.size wE wr ∧ Hid (Chk (fun x => dotP x ∧ uptoD bs x.1 + 1 < x.2) (fun _ _ => True) cl k)) (fun i _ => nc - (intOf i).toNat)
      case atStart => exact ⟨0, by omega, rfl, Below.refl _ _, Lib.hid Chk.zero⟩
      case round =>
        obtain ⟨j, hj, rfl, hB, hI⟩ := hrel
        have c1 : wr.cell? ⟨x, 1, none⟩ = some (.slice ac nc kc) := (Kx.out.below hB Kx.out.lt).cell 1
        by_cases hlt : j < nc
        · obtain ⟨b, off, p, q, rfl, hbl, d0, d1, hp⟩ := (HS2.out.below hB).get j (by rw [hn2.out]; exact hlt)
          obtain ⟨C, hC⟩ := nm (okD p q)
          obtain ⟨u, hu⟩ := nm (baseD bs p)
          go_wp2_with fail
          refine (refcheck_any p q C hC _).mono ?_; rintro e w4 ⟨rfl, hB4⟩
          have HB4 : Hid (Below wE.heap.size wE w4) := bNext hB hB4
          have HB04 : Hid (Below w.heap.size w w4) := bNext HB0.out HB4.out
          have Kx4 : Hid (Blk w4 x #[.slice ab k kb, .slice (some ⟨b, off, none⟩) nc kc] 27) := Kx.out.below HB4.out Kx.out.lt
          have HSB : Hid (SlP w4 ab bs) := HS1.out.below HB4.out
          have e0 : w4.cell? ⟨b, off + j * 2, none⟩ = some (.int .i64 p) := (hB4.cell (p := ⟨b, off + j * 2, none⟩) hbl).trans d0
          have e1 : w4.cell? ⟨b, off + j * 2 + 1, none⟩ = some (.int .i64 q) := (hB4.cell (p := ⟨b, off + j * 2 + 1, none⟩) hbl).trans d1
          have hbl4 : Hid (b < w4.heap.size) := Nat.lt_of_lt_of_le hbl hB4.size
          clear d0 d1 c1 hB4 hB
          have c0 : w4.cell? ⟨x, 0, none⟩ = some (.slice ab k kb) := Kx4.out.cell 0
          have c1 : w4.cell? ⟨x, 1, none⟩ = some (.slice (some ⟨b, off, none⟩) nc kc) := Kx4.out.cell 1
          have hub := uptoD_le (bs := bs) (z := p) HBA.out
          rw [← HBU.out, ← hu.out] at hub
          have hw1 : IntKind.i64.wrap (u + 1) = u + 1 := by rw [IntKind.wrap_i64]; omega
          clear hub
          have KEEP : Hid (∀ wb : World, Below w4.drew.heap.size w4.drew wb → wb.cell? ⟨x, 0, none⟩ = some (.slice ab k kb) ∧ wb.cell? ⟨x, 1, none⟩ = some (.slice (some ⟨b, off, none⟩) nc kc) ∧ wb.cell? ⟨b, off + j * 2, none⟩ = some (.int .i64 p) ∧ wb.cell? ⟨b, off + j * 2 + 1, none⟩ = some (.int .i64 q)) := by
            show ∀ wb : World, _
            intro wb h
            have h1 := Blk.below (w := w4.drew) Kx4.out h Kx4.out.lt
            exact ⟨h1.cell 0, h1.cell 1, (h.cell (p := ⟨b, off + j * 2, none⟩) hbl4.out).trans e0, (h.cell (p := ⟨b, off + j * 2 + 1, none⟩) hbl4.out).trans e1⟩
          go_wp2_with fail
          cases C
          · obtain rfl : r = false := notB hr.out fun h => by
              have := (h.cloud _ (List.mem_of_getElem? hp.out)).1
              rw [dotP, ← hC.out] at this
              cases this
            obtain rfl := hE.out
            refine wp_region_noPanic ?_
            refine wp_region_held_drew (S := fun w' => w'.cell? ⟨x, 0, none⟩ = some (.slice ab k kb) ∧ w'.cell? ⟨x, 1, none⟩ = some (.slice (some ⟨b, off, none⟩) nc kc) ∧ w'.cell? ⟨b, off + j * 2, none⟩ = some (.int .i64 p) ∧ w'.cell? ⟨b, off + j * 2 + 1, none⟩ = some (.int .i64 q)) (by kernel_rfl) (⟨c0, c1, e0, e1⟩) (fun hHeld => ?_)
            refine wpAnyH_take (i := 0) (v := ?_) (takeL rfl) (by kernel_rfl) (by kernel_rfl) (by kernel_rfl) (fun _ _ _ h => h) (Or.inl ⟨by rfl, ?_⟩) (by assumption) ?_
            rotate_left
            · (intro w hSw; (try dsimp only at hSw); first | (go_simp; done) | (go_simp; with_reducible rfl))
            try simp only [Act.put, List.setIfInBounds_toArray, List.set_cons_zero, List.set_cons_succ]
            refine wpAnyH_take (i := 1) (v := ?_) (takeL rfl) (by kernel_rfl) (by kernel_rfl) (by kernel_rfl) (fun _ _ _ h => h) (Or.inl ⟨by rfl, ?_⟩) (by assumption) ?_
            rotate_left
            · (intro w hSw; (try dsimp only at hSw); first | (go_simp; done) | (go_simp; with_reducible rfl))
            try simp only [Act.put, List.setIfInBounds_toArray, List.set_cons_zero, List.set_cons_succ]
            refine wpAnyH_take (i := 2) (v := ?_) (takeL rfl) (by kernel_rfl) (by kernel_rfl) (by kernel_rfl) (fun _ _ _ h => h) (Or.inl ⟨by rfl, ?_⟩) (by assumption) ?_
            rotate_left
            · (intro w hSw; (try dsimp only at hSw); first | (go_simp; done) | (go_simp; with_reducible rfl))
            try simp only [Act.put, List.setIfInBounds_toArray, List.set_cons_zero, List.set_cons_succ]
            refine wpAnyH_take (i := 3) (v := undef) (takeL rfl) (by kernel_rfl) (by kernel_rfl) (by kernel_rfl) (fun _ _ _ h => h) (Or.inr ⟨by rfl, rfl⟩) (by assumption) ?_
            try simp only [Act.put, List.setIfInBounds_toArray, List.set_cons_zero, List.set_cons_succ]
            refine wpAnyH_take (i := 4) (v := undef) (takeL rfl) (by kernel_rfl) (by kernel_rfl) (by kernel_rfl) (fun _ _ _ h => h) (Or.inr ⟨by rfl, rfl⟩) (by assumption) ?_
            try simp only [Act.put, List.setIfInBounds_toArray, List.set_cons_zero, List.set_cons_succ]
            refine wpAnyH_take (i := 5) (v := undef) (takeL rfl) (by kernel_rfl) (by kernel_rfl) (by kernel_rfl) (fun _ _ _ h => h) (Or.inr ⟨by rfl, rfl⟩) (by assumption) ?_
            try simp only [Act.put, List.setIfInBounds_toArray, List.set_cons_zero, List.set_cons_succ]
            refine wpAnyH_take (i := 6) (v := undef) (takeL rfl) (by kernel_rfl) (by kernel_rfl) (by kernel_rfl) (fun _ _ _ h => h) (Or.inr ⟨by rfl, rfl⟩) (by assumption) ?_
            try simp only [Act.put, List.setIfInBounds_toArray, List.set_cons_zero, List.set_cons_succ]
            refine wpAnyH_take (i := 7) (v := undef) (takeL rfl) (by kernel_rfl) (by kernel_rfl) (by kernel_rfl) (fun _ _ _ h => h) (Or.inr ⟨by rfl, rfl⟩) (by assumption) ?_
            try simp only [Act.put, List.setIfInBounds_toArray, List.set_cons_zero, List.set_cons_succ]
            refine wpAnyH_take (i := 8) (v := undef) (takeL rfl) (by kernel_rfl) (by kernel_rfl) (by kernel_rfl) (fun _ _ _ h => h) (Or.inr ⟨by rfl, rfl⟩) (by assumption) ?_
            try simp only [Act.put, List.setIfInBounds_toArray, List.set_cons_zero, List.set_cons_succ]
            refine wpAnyH_take (i := 9) (v := undef) (takeL rfl) (by kernel_rfl) (by kernel_rfl) (by kernel_rfl) (fun _ _ _ h => h) (Or.inr ⟨by rfl, rfl⟩) (by assumption) ?_
            try simp only [Act.put, List.setIfInBounds_toArray, List.set_cons_zero, List.set_cons_succ]
            refine wpAnyH_take (i := 10) (v := undef) (takeL rfl) (by kernel_rfl) (by kernel_rfl) (by kernel_rfl) (fun _ _ _ h => h) (Or.inr ⟨by rfl, rfl⟩) (by assumption) ?_
            try simp only [Act.put, List.setIfInBounds_toArray, List.set_cons_zero, List.set_cons_succ]
            refine wpAnyH_take (i := 11) (v := undef) (takeL rfl) (by kernel_rfl) (by kernel_rfl) (by kernel_rfl) (fun _ _ _ h => h) (Or.inr ⟨by rfl, rfl⟩) (by assumption) ?_
            try simp only [Act.put, List.setIfInBounds_toArray, List.set_cons_zero, List.set_cons_succ]
            refine wpAnyH_take (i := 12) (v := undef) (takeL rfl) (by kernel_rfl) (by kernel_rfl) (by kernel_rfl) (fun _ _ _ h => h) (Or.inr ⟨by rfl, rfl⟩) (by assumption) ?_
            try simp only [Act.put, List.setIfInBounds_toArray, List.set_cons_zero, List.set_cons_succ]
            refine wpAnyH_take (i := 13) (v := undef) (takeL rfl) (by kernel_rfl) (by kernel_rfl) (by kernel_rfl) (fun _ _ _ h => h) (Or.inr ⟨by rfl, rfl⟩) (by assumption) ?_
            try simp only [Act.put, List.setIfInBounds_toArray, List.set_cons_zero, List.set_cons_succ]
            refine wpAnyH_take (i := 14) (v := undef) (takeL rfl) (by kernel_rfl) (by kernel_rfl) (by kernel_rfl) (fun _ _ _ h => h) (Or.inr ⟨by rfl, rfl⟩) (by assumption) ?_
            try simp only [Act.put, List.setIfInBounds_toArray, List.set_cons_zero, List.set_cons_succ]
            refine wpAnyH_take (i := 15) (v := undef) (takeL rfl) (by kernel_rfl) (by kernel_rfl) (by kernel_rfl) (fun _ _ _ h => h) (Or.inr ⟨by rfl, rfl⟩) (by assumption) ?_
            try simp only [Act.put, List.setIfInBounds_toArray, List.set_cons_zero, List.set_cons_succ]
            refine wpAnyH_take (i := 16) (v := undef) (takeL rfl) (by kernel_rfl) (by kernel_rfl) (by kernel_rfl) (fun _ _ _ h => h) (Or.inr ⟨by rfl, rfl⟩) (by assumption) ?_
            try simp only [Act.put, List.setIfInBounds_toArray, List.set_cons_zero, List.set_cons_succ]
            refine wpAnyH_take (i := 17) (v := undef) (takeL rfl) (by kernel_rfl) (by kernel_rfl) (by kernel_rfl) (fun _ _ _ h => h) (Or.inr ⟨by rfl, rfl⟩) (by assumption) ?_
            try simp only [Act.put, List.setIfInBounds_toArray, List.set_cons_zero, List.set_cons_succ]
            refine wpAnyH_take (i := 18) (v := undef) (takeL rfl) (by kernel_rfl) (by kernel_rfl) (by kernel_rfl) (fun _ _ _ h => h) (Or.inr ⟨by rfl, rfl⟩) (by assumption) ?_
            try simp only [Act.put, List.setIfInBounds_toArray, List.set_cons_zero, List.set_cons_succ]
            refine wpAnyH_take (i := 19) (v := ?_) (takeL rfl) (by kernel_rfl) (by kernel_rfl) (by kernel_rfl) (fun _ _ _ h => h) (Or.inl ⟨by rfl, ?_⟩) (by assumption) ?_
            rotate_left
            · (intro w hSw; (try dsimp only at hSw); first | (go_simp; done) | (go_simp; with_reducible rfl))
            try simp only [Act.put, List.setIfInBounds_toArray, List.set_cons_zero, List.set_cons_succ]
            refine wpAnyH_done (by kernel_rfl) ?_ _
            refine NoPanic.normal ?_
            go_wp2_with fail
            go_ret
            exact ⟨rfl, bDrew HB04.out⟩
          · by_cases hq : q ≤ u + 1
            · have hqd : decide (q ≤ u + 1) = true := decide_eq_true hq
              obtain rfl : r = false := notB hr.out fun h => by
                have := (h.cloud _ (List.mem_of_getElem? hp.out)).2
                rw [← HBU.out, ← hu.out] at this
                simp only at this
                omega
              obtain rfl := hE.out
              refine wp_region_noPanic ?_
              refine wp_region_held_drew (S := fun w' => w'.cell? ⟨x, 0, none⟩ = some (.slice ab k kb) ∧ w'.cell? ⟨x, 1, none⟩ = some (.slice (some ⟨b, off, none⟩) nc kc) ∧ w'.cell? ⟨b, off + j * 2, none⟩ = some (.int .i64 p) ∧ w'.cell? ⟨b, off + j * 2 + 1, none⟩ = some (.int .i64 q)) (by kernel_rfl) (⟨c0, c1, e0, e1⟩) (fun hHeld => ?_)
              refine wpAnyH_take (i := 0) (v := ?_) (takeL rfl) (by kernel_rfl) (by kernel_rfl) (by kernel_rfl) (fun _ _ _ h => h) (Or.inl ⟨by rfl, ?_⟩) (by assumption) ?_
              rotate_left
              · (intro w hSw; (try dsimp only at hSw); first | (go_simp; done) | (go_simp; with_reducible rfl))
              try simp only [Act.put, List.setIfInBounds_toArray, List.set_cons_zero, List.set_cons_succ]
              refine wpAnyH_take (i := 1) (v := ?_) (takeL rfl) (by kernel_rfl) (by kernel_rfl) (by kernel_rfl) (fun _ _ _ h => h) (Or.inl ⟨by rfl, ?_⟩) (by assumption) ?_
              rotate_left
              · (intro w hSw; (try dsimp only at hSw); first | (go_simp; done) | (go_simp; with_reducible rfl))
              try simp only [Act.put, List.setIfInBounds_toArray, List.set_cons_zero, List.set_cons_succ]
              refine wpAnyH_take (i := 2) (v := ?_) (takeL rfl) (by kernel_rfl) (by kernel_rfl) (by kernel_rfl) (fun _ _ _ h => h) (Or.inl ⟨by rfl, ?_⟩) (by assumption) ?_
              rotate_left
              · (intro w hSw; (try dsimp only at hSw); first | (go_simp; done) | (go_simp; with_reducible rfl))
              try simp only [Act.put, List.setIfInBounds_toArray, List.set_cons_zero, List.set_cons_succ]
              refine wpAnyH_take (i := 3) (v := ?_) (takeL rfl) (by kernel_rfl) (by kernel_rfl) (by kernel_rfl) (fun _ _ _ h => h) (Or.inl ⟨by rfl, ?_⟩) (by assumption) ?_
              rotate_left
              · (intro w hSw; (try dsimp only at hSw); first | (go_simp; done) | (go_simp; with_reducible rfl))
              try simp only [Act.put, List.setIfInBounds_toArray, List.set_cons_zero, List.set_cons_succ]
              refine wpAnyH_take (i := 4) (v := ?_) (takeL rfl) (by kernel_rfl) (by kernel_rfl) (by kernel_rfl) (fun _ _ _ h => h) (Or.inl ⟨by rfl, ?_⟩) (by assumption) ?_
              rotate_left
              · (intro w hSw; (try dsimp only at hSw); first | (go_simp; done) | (go_simp; with_reducible rfl))
              try simp only [Act.put, List.setIfInBounds_toArray, List.set_cons_zero, List.set_cons_succ]
              refine wpAnyH_take (i := 5) (v := ?_) (takeL rfl) (by kernel_rfl) (by kernel_rfl) (by kernel_rfl) (fun _ _ _ h => h) (Or.inl ⟨by rfl, ?_⟩) (by assumption) ?_
              rotate_left
              · (intro w hSw; (try dsimp only at hSw); first | (go_simp; done) | (go_simp; with_reducible rfl))
              try simp only [Act.put, List.setIfInBounds_toArray, List.set_cons_zero, List.set_cons_succ]
              refine wpAnyH_take (i := 6) (v := ?_) (takeL rfl) (by kernel_rfl) (by kernel_rfl) (by kernel_rfl) (fun _ _ _ h => h) (Or.inl ⟨by rfl, ?_⟩) (by assumption) ?_
              rotate_left
              · (intro w hSw; (try dsimp only at hSw); first | (go_simp; done) | (go_simp; with_reducible rfl))
              try simp only [Act.put, List.setIfInBounds_toArray, List.set_cons_zero, List.set_cons_succ]
              refine wpAnyH_take (i := 7) (v := ?_) (takeL rfl) (by kernel_rfl) (by kernel_rfl) (by kernel_rfl) (fun _ _ _ h => h) (Or.inl ⟨by rfl, ?_⟩) (by assumption) ?_
              rotate_left
              · (intro w hSw; (try dsimp only at hSw); first | (go_simp; done) | (go_simp; with_reducible rfl))
              try simp only [Act.put, List.setIfInBounds_toArray, List.set_cons_zero, List.set_cons_succ]
              refine wpAnyH_take (i := 8) (v := ?_) (takeL rfl) (by kernel_rfl) (by kernel_rfl) (by kernel_rfl) (fun _ _ _ h => h) (Or.inl ⟨by rfl, ?_⟩) (by assumption) ?_
              rotate_left
              · (intro w hSw; (try dsimp only at hSw); first | (go_simp; done) | (go_simp; with_reducible rfl))
              try simp only [Act.put, List.setIfInBounds_toArray, List.set_cons_zero, List.set_cons_succ]
              refine wpAnyH_take (i := 9) (v := ?_) (takeL rfl) (by kernel_rfl) (by kernel_rfl) (by kernel_rfl) (fun _ _ _ h => h) (Or.inl ⟨by rfl, ?_⟩) (by assumption) ?_
              rotate_left
              · (intro w hSw; (try dsimp only at hSw); first | (go_simp; done) | (go_simp; with_reducible rfl))
              try simp only [Act.put, List.setIfInBounds_toArray, List.set_cons_zero, List.set_cons_succ]
              refine wpAnyH_take (i := 10) (v := ?_) (takeL rfl) (by kernel_rfl) (by kernel_rfl) (by kernel_rfl) (fun _ _ _ h => h) (Or.inl ⟨by rfl, ?_⟩) (by assumption) ?_
              rotate_left
              · (intro w hSw; (try dsimp only at hSw); first | (go_simp; done) | (go_simp; with_reducible rfl))
              try simp only [Act.put, List.setIfInBounds_toArray, List.set_cons_zero, List.set_cons_succ]
              refine wpAnyH_take (i := 11) (v := ?_) (takeL rfl) (by kernel_rfl) (by kernel_rfl) (by kernel_rfl) (fun _ _ _ h => h) (Or.inl ⟨by rfl, ?_⟩) (by assumption) ?_
              rotate_left
              · (intro w hSw; (try dsimp only at hSw); first | (go_simp; done) | (go_simp; with_reducible rfl))
              try simp only [Act.put, List.setIfInBounds_toArray, List.set_cons_zero, List.set_cons_succ]
              refine wpAnyH_take (i := 12) (v := ?_) (takeL rfl) (by kernel_rfl) (by kernel_rfl) (by kernel_rfl) (fun _ _ _ h => h) (Or.inl ⟨by rfl, ?_⟩) (by assumption) ?_
              rotate_left
              · (intro w hSw; (try dsimp only at hSw); first | (go_simp; done) | (go_simp; with_reducible rfl))
              try simp only [Act.put, List.setIfInBounds_toArray, List.set_cons_zero, List.set_cons_succ]
              refine wpAnyH_take (i := 13) (v := ?_) (takeL rfl) (by kernel_rfl) (by kernel_rfl) (by kernel_rfl) (fun _ _ _ h => h) (Or.inl ⟨by rfl, ?_⟩) (by assumption) ?_
              rotate_left
              · (intro w hSw; (try dsimp only at hSw); first | (go_simp; done) | (go_simp; with_reducible rfl))
              try simp only [Act.put, List.setIfInBounds_toArray, List.set_cons_zero, List.set_cons_succ]
              refine wpAnyH_take (i := 14) (v := ?_) (takeL rfl) (by kernel_rfl) (by kernel_rfl) (by kernel_rfl) (fun _ _ _ h => h) (Or.inl ⟨by rfl, ?_⟩) (by assumption) ?_
              rotate_left
              · (intro w hSw; (try dsimp only at hSw); first | (go_simp; done) | (go_simp; with_reducible rfl))
              try simp only [Act.put, List.setIfInBounds_toArray, List.set_cons_zero, List.set_cons_succ]
              refine wpAnyH_take (i := 15) (v := ?_) (takeL rfl) (by kernel_rfl) (by kernel_rfl) (by kernel_rfl) (fun _ _ _ h => h) (Or.inl ⟨by rfl, ?_⟩) (by assumption) ?_
              rotate_left
              · (intro w hSw; (try dsimp only at hSw); first | (go_simp; done) | (go_simp; with_reducible rfl))
              try simp only [Act.put, List.setIfInBounds_toArray, List.set_cons_zero, List.set_cons_succ]
              refine wpAnyH_ready (rs := [16]) (by kernel_rfl) (by simp) ?_
              refine AllReadyH.cons (takeL rfl) (fun K hK => ?_) AllReadyH.nil
              go_simp
              refine (refbase_any ab (some ⟨b, off, none⟩) k kb nc kc bs hn hm p u hu _ (HSB.out.below (bDrew (Below.refl _ _)))).mono ?_; rintro e w5 ⟨rfl, hB5⟩
              go_wp2_with fail
              refine hK.out _ _ (KEEP.out _ hB5) (fun hHeld => ?_)
              clear hK K
              refine wpAnyH_take (i := 17) (v := ?_) (takeL rfl) (by kernel_rfl) (by kernel_rfl) (by kernel_rfl) (fun _ _ _ h => h) (Or.inl ⟨by rfl, ?_⟩) (by assumption) ?_
              rotate_left
              · (intro w hSw; (try dsimp only at hSw); first | (go_simp; done) | (go_simp; with_reducible rfl))
              try simp only [Act.put, List.setIfInBounds_toArray, List.set_cons_zero, List.set_cons_succ]
              refine wpAnyH_take (i := 18) (v := ?_) (takeL rfl) (by kernel_rfl) (by kernel_rfl) (by kernel_rfl) (fun _ _ _ h => h) (Or.inl ⟨by rfl, ?_⟩) (by assumption) ?_
              rotate_left
              · (intro w hSw; (try dsimp only at hSw); first | (go_simp; done) | (go_simp; with_reducible rfl))
              try simp only [Act.put, List.setIfInBounds_toArray, List.set_cons_zero, List.set_cons_succ]
              refine wpAnyH_take (i := 19) (v := ?_) (takeL rfl) (by kernel_rfl) (by kernel_rfl) (by kernel_rfl) (fun _ _ _ h => h) (Or.inl ⟨by rfl, ?_⟩) (by assumption) ?_
              rotate_left
              · (intro w hSw; (try dsimp only at hSw); first | (go_simp; done) | (go_simp; with_reducible rfl))
              try simp only [Act.put, List.setIfInBounds_toArray, List.set_cons_zero, List.set_cons_succ]
              refine wpAnyH_done (by kernel_rfl) ?_ _
              refine NoPanic.normal ?_
              go_wp2_with fail
              go_ret
              exact ⟨rfl, bNext (bDrew HB04.out) hB5⟩
            · have hqd : decide (q ≤ u + 1) = false := decide_eq_false hq
              have HI : Hid (Chk (fun x => dotP x ∧ uptoD bs x.1 + 1 < x.2) (fun _ _ => True) cl (j + 1)) := by
                intro i y hi hy
                rcases Nat.lt_or_ge i j with h1 | h1
                · exact hI.out i y h1 hy
                · obtain rfl : i = j := by omega
                  rw [hp.out] at hy
                  obtain rfl := Option.some.inj hy
                  exact ⟨⟨hC.out.symm, by rw [← HBU.out, ← hu.out]; omega⟩, fun _ _ _ _ => trivial⟩
              refine wp_region_noPanic ?_
              refine wp_region_held_drew (S := fun w' => w'.cell? ⟨x, 0, none⟩ = some (.slice ab k kb) ∧ w'.cell? ⟨x, 1, none⟩ = some (.slice (some ⟨b, off, none⟩) nc kc) ∧ w'.cell? ⟨b, off + j * 2, none⟩ = some (.int .i64 p) ∧ w'.cell? ⟨b, off + j * 2 + 1, none⟩ = some (.int .i64 q)) (by kernel_rfl) (⟨c0, c1, e0, e1⟩) (fun hHeld => ?_)
              refine wpAnyH_take (i := 0) (v := ?_) (takeL rfl) (by kernel_rfl) (by kernel_rfl) (by kernel_rfl) (fun _ _ _ h => h) (Or.inl ⟨by rfl, ?_⟩) (by assumption) ?_
              rotate_left
              · (intro w hSw; (try dsimp only at hSw); first | (go_simp; done) | (go_simp; with_reducible rfl))
              try simp only [Act.put, List.setIfInBounds_toArray, List.set_cons_zero, List.set_cons_succ]
              refine wpAnyH_take (i := 1) (v := ?_) (takeL rfl) (by kernel_rfl) (by kernel_rfl) (by kernel_rfl) (fun _ _ _ h => h) (Or.inl ⟨by rfl, ?_⟩) (by assumption) ?_
              rotate_left
              · (intro w hSw; (try dsimp only at hSw); first | (go_simp; done) | (go_simp; with_reducible rfl))
              try simp only [Act.put, List.setIfInBounds_toArray, List.set_cons_zero, List.set_cons_succ]
              refine wpAnyH_take (i := 2) (v := ?_) (takeL rfl) (by kernel_rfl) (by kernel_rfl) (by kernel_rfl) (fun _ _ _ h => h) (Or.inl ⟨by rfl, ?_⟩) (by assumption) ?_
              rotate_left
              · (intro w hSw; (try dsimp only at hSw); first | (go_simp; done) | (go_simp; with_reducible rfl))
              try simp only [Act.put, List.setIfInBounds_toArray, List.set_cons_zero, List.set_cons_succ]
              refine wpAnyH_take (i := 3) (v := ?_) (takeL rfl) (by kernel_rfl) (by kernel_rfl) (by kernel_rfl) (fun _ _ _ h => h) (Or.inl ⟨by rfl, ?_⟩) (by assumption) ?_
              rotate_left
              · (intro w hSw; (try dsimp only at hSw); first | (go_simp; done) | (go_simp; with_reducible rfl))
              try simp only [Act.put, List.setIfInBounds_toArray, List.set_cons_zero, List.set_cons_succ]
              refine wpAnyH_take (i := 4) (v := ?_) (takeL rfl) (by kernel_rfl) (by kernel_rfl) (by kernel_rfl) (fun _ _ _ h => h) (Or.inl ⟨by rfl, ?_⟩) (by assumption) ?_
              rotate_left
              · (intro w hSw; (try dsimp only at hSw); first | (go_simp; done) | (go_simp; with_reducible rfl))
              try simp only [Act.put, List.setIfInBounds_toArray, List.set_cons_zero, List.set_cons_succ]
              refine wpAnyH_take (i := 5) (v := ?_) (takeL rfl) (by kernel_rfl) (by kernel_rfl) (by kernel_rfl) (fun _ _ _ h => h) (Or.inl ⟨by rfl, ?_⟩) (by assumption) ?_
              rotate_left
              · (intro w hSw; (try dsimp only at hSw); first | (go_simp; done) | (go_simp; with_reducible rfl))
              try simp only [Act.put, List.setIfInBounds_toArray, List.set_cons_zero, List.set_cons_succ]
              refine wpAnyH_take (i := 6) (v := ?_) (takeL rfl) (by kernel_rfl) (by kernel_rfl) (by kernel_rfl) (fun _ _ _ h => h) (Or.inl ⟨by rfl, ?_⟩) (by assumption) ?_
              rotate_left
              · (intro w hSw; (try dsimp only at hSw); first | (go_simp; done) | (go_simp; with_reducible rfl))
              try simp only [Act.put, List.setIfInBounds_toArray, List.set_cons_zero, List.set_cons_succ]
              refine wpAnyH_take (i := 7) (v := ?_) (takeL rfl) (by kernel_rfl) (by kernel_rfl) (by kernel_rfl) (fun _ _ _ h => h) (Or.inl ⟨by rfl, ?_⟩) (by assumption) ?_
              rotate_left
              · (intro w hSw; (try dsimp only at hSw); first | (go_simp; done) | (go_simp; with_reducible rfl))
              try simp only [Act.put, List.setIfInBounds_toArray, List.set_cons_zero, List.set_cons_succ]
              refine wpAnyH_take (i := 8) (v := ?_) (takeL rfl) (by kernel_rfl) (by kernel_rfl) (by kernel_rfl) (fun _ _ _ h => h) (Or.inl ⟨by rfl, ?_⟩) (by assumption) ?_
              rotate_left
              · (intro w hSw; (try dsimp only at hSw); first | (go_simp; done) | (go_simp; with_reducible rfl))
              try simp only [Act.put, List.setIfInBounds_toArray, List.set_cons_zero, List.set_cons_succ]
              refine wpAnyH_take (i := 9) (v := ?_) (takeL rfl) (by kernel_rfl) (by kernel_rfl) (by kernel_rfl) (fun _ _ _ h => h) (Or.inl ⟨by rfl, ?_⟩) (by assumption) ?_
              rotate_left
              · (intro w hSw; (try dsimp only at hSw); first | (go_simp; done) | (go_simp; with_reducible rfl))
              try simp only [Act.put, List.setIfInBounds_toArray, List.set_cons_zero, List.set_cons_succ]
              refine wpAnyH_take (i := 10) (v := ?_) (takeL rfl) (by kernel_rfl) (by kernel_rfl) (by kernel_rfl) (fun _ _ _ h => h) (Or.inl ⟨by rfl, ?_⟩) (by assumption) ?_
              rotate_left
              · (intro w hSw; (try dsimp only at hSw); first | (go_simp; done) | (go_simp; with_reducible rfl))
              try simp only [Act.put, List.setIfInBounds_toArray, List.set_cons_zero, List.set_cons_succ]
              refine wpAnyH_take (i := 11) (v := ?_) (takeL rfl) (by kernel_rfl) (by kernel_rfl) (by kernel_rfl) (fun _ _ _ h => h) (Or.inl ⟨by rfl, ?_⟩) (by assumption) ?_
              rotate_left
              · (intro w hSw; (try dsimp only at hSw); first | (go_simp; done) | (go_simp; with_reducible rfl))
              try simp only [Act.put, List.setIfInBounds_toArray, List.set_cons_zero, List.set_cons_succ]
              refine wpAnyH_take (i := 12) (v := ?_) (takeL rfl) (by kernel_rfl) (by kernel_rfl) (by kernel_rfl) (fun _ _ _ h => h) (Or.inl ⟨by rfl, ?_⟩) (by assumption) ?_
              rotate_left
              · (intro w hSw; (try dsimp only at hSw); first | (go_simp; done) | (go_simp; with_reducible rfl))
              try simp only [Act.put, List.setIfInBounds_toArray, List.set_cons_zero, List.set_cons_succ]
              refine wpAnyH_take (i := 13) (v := ?_) (takeL rfl) (by kernel_rfl) (by kernel_rfl) (by kernel_rfl) (fun _ _ _ h => h) (Or.inl ⟨by rfl, ?_⟩) (by assumption) ?_
              rotate_left
              · (intro w hSw; (try dsimp only at hSw); first | (go_simp; done) | (go_simp; with_reducible rfl))
              try simp only [Act.put, List.setIfInBounds_toArray, List.set_cons_zero, List.set_cons_succ]
              refine wpAnyH_take (i := 14) (v := ?_) (takeL rfl) (by kernel_rfl) (by kernel_rfl) (by kernel_rfl) (fun _ _ _ h => h) (Or.inl ⟨by rfl, ?_⟩) (by assumption) ?_
              rotate_left
              · (intro w hSw; (try dsimp only at hSw); first | (go_simp; done) | (go_simp; with_reducible rfl))
              try simp only [Act.put, List.setIfInBounds_toArray, List.set_cons_zero, List.set_cons_succ]
              refine wpAnyH_take (i := 15) (v := ?_) (takeL rfl) (by kernel_rfl) (by kernel_rfl) (by kernel_rfl) (fun _ _ _ h => h) (Or.inl ⟨by rfl, ?_⟩) (by assumption) ?_
              rotate_left
              · (intro w hSw; (try dsimp only at hSw); first | (go_simp; done) | (go_simp; with_reducible rfl))
              try simp only [Act.put, List.setIfInBounds_toArray, List.set_cons_zero, List.set_cons_succ]
              refine wpAnyH_ready (rs := [16]) (by kernel_rfl) (by simp) ?_
              refine AllReadyH.cons (takeL rfl) (fun K hK => ?_) AllReadyH.nil
              go_simp
              refine (refbase_any ab (some ⟨b, off, none⟩) k kb nc kc bs hn hm p u hu _ (HSB.out.below (bDrew (Below.refl _ _)))).mono ?_; rintro e w5 ⟨rfl, hB5⟩
              go_wp2_with fail
              refine hK.out _ _ (KEEP.out _ hB5) (fun hHeld => ?_)
              clear hK K
              refine wpAnyH_take (i := 17) (v := ?_) (takeL rfl) (by kernel_rfl) (by kernel_rfl) (by kernel_rfl) (fun _ _ _ h => h) (Or.inl ⟨by rfl, ?_⟩) (by assumption) ?_
              rotate_left
              · (intro w hSw; (try dsimp only at hSw); first | (go_simp; done) | (go_simp; with_reducible rfl))
              try simp only [Act.put, List.setIfInBounds_toArray, List.set_cons_zero, List.set_cons_succ]
              refine wpAnyH_take (i := 18) (v := ?_) (takeL rfl) (by kernel_rfl) (by kernel_rfl) (by kernel_rfl) (fun _ _ _ h => h) (Or.inl ⟨by rfl, ?_⟩) (by assumption) ?_
              rotate_left
              · (intro w hSw; (try dsimp only at hSw); first | (go_simp; done) | (go_simp; with_reducible rfl))
              try simp only [Act.put, List.setIfInBounds_toArray, List.set_cons_zero, List.set_cons_succ]
              refine wpAnyH_take (i := 19) (v := ?_) (takeL rfl) (by kernel_rfl) (by kernel_rfl) (by kernel_rfl) (fun _ _ _ h => h) (Or.inl ⟨by rfl, ?_⟩) (by assumption) ?_
              rotate_left
              · (intro w hSw; (try dsimp only at hSw); first | (go_simp; done) | (go_simp; with_reducible rfl))
              try simp only [Act.put, List.setIfInBounds_toArray, List.set_cons_zero, List.set_cons_succ]
              refine wpAnyH_done (by kernel_rfl) ?_ _
              refine NoPanic.normal ?_
              go_wp2_with fail
              go_roundw
              case rel => exact ⟨j + 1, by omega, by go_num, bNext (bDrew HB4.out) hB5, HI⟩
              case measure => simp [intOf]; omega
        · obtain rfl : j = nc := by omega
          obtain rfl : r = true := hr.out.2 ⟨HA1.out, HA2.out, HBS.out, fun y hy => hI.out.all (by rw [hn2.out]; exact Nat.le_refl _) y hy⟩
          obtain rfl := hE.out
          go_wp2_with fail
          go_ret
          exact ⟨rfl, bNext HB0.out hB⟩

set_option maxRecDepth 100000 in
set_option maxHeartbeats 4000000 in
theorem refchas_any (ab ac : Option Addr) (nb kb nc kc : Nat) (bs cl : List Dot2) (hn : Hid (bs.length = nb)) (hm : nb ≤ 1000000) (hn2 : Hid (cl.length = nc)) (hm2 : nc ≤ 1000000) (p q : Int) (ha : Hid (Asc bs)) (hd : Hid (∀ x ∈ bs, dotP x)) (r : Bool) (hr : Hid (r = true ↔ hasD bs cl (p, q))) (w : World) (hs : SlP w ab bs) (hs2 : SlP w ac cl) :
    Calls Tryz.prog 82 #[.agg #[.slice ab nb kb, .slice ac nc kc], .agg #[.int .i64 p, .int .i64 q]] w fun e w' => e = .returned (.bool r) ∧ Below w.heap.size w w' := by
  obtain ⟨wa, hwa⟩ := nm (w.alloc (.cells #[.slice ab nb kb, .slice ac nc kc] 27))
  obtain ⟨w0, hw0⟩ := nm (wa.alloc (.cells #[.int .i64 p, .int .i64 q] 33))
  obtain ⟨x, hx⟩ := nm w.heap.size
  obtain ⟨y, hy⟩ := nm wa.heap.size
  have Kx : Hid (Blk w0 x #[.slice ab nb kb, .slice ac nc kc] 27) := by show Blk _ _ _ _; rw [hw0.out]; exact (blkN hwa.out hx.out).alloc _
  have Ky : Hid (Blk w0 y #[.int .i64 p, .int .i64 q] 33) := blkN hw0.out hy.out
  have HSZ : Hid (x + 1 = y) := by show _ = _; rw [hy.out, hwa.out, hx.out]; simp
  have HB0 : Hid (Below w.heap.size w w0) := by rw [hw0.out, hwa.out]; exact bNew (bOld _) _
  have HS1 : Hid (SlP w0 ab bs) := hs.below HB0.out
  have HS2 : Hid (SlP w0 ac cl) := hs2.below HB0.out
  clear hs hs2
  obtain ⟨C, hC⟩ := nm (okD p q)
  obtain ⟨D, hD⟩ := nm (decide ((p, q) ∈ cl))
  obtain ⟨u, hu⟩ := nm (baseD bs p)
  have HU : Hid (u = uptoD bs p) := by show _ = _; rw [hu.out]; exact base_upto ha.out hd.out p
  go_enter Tryz.func82, Tryz.ntmps82
  go_upto_region 1 with fail
  rw [← hwa.out, ← hw0.out, ← hx.out]
  rw [HSZ.out]
  have e0 : w0.cell? ⟨y, 0, none⟩ = some (.int .i64 p) := Ky.out.cell 0
  have e1 : w0.cell? ⟨y, 1, none⟩ = some (.int .i64 q) := Ky.out.cell 1
  go_wp2_with fail
  refine (refcheck_any p q C hC _).mono ?_; rintro e w1 ⟨rfl, hB1⟩
  replace Kx := Lib.hid (Kx.out.below hB1 Kx.out.lt)
  replace Ky := Lib.hid (Ky.out.below hB1 Ky.out.lt)
  replace HB0 := Lib.hid (bNext HB0.out hB1)
  replace HS1 := Lib.hid (HS1.out.below hB1)
  replace HS2 := Lib.hid (HS2.out.below hB1)
  clear hB1 e0 e1 hw0 hwa
  have c1 : w1.cell? ⟨x, 1, none⟩ = some (.slice ac nc kc) := Kx.out.cell 1
  have e0 : w1.cell? ⟨y, 0, none⟩ = some (.int .i64 p) := Ky.out.cell 0
  have e1 : w1.cell? ⟨y, 1, none⟩ = some (.int .i64 q) := Ky.out.cell 1
  go_wp2_with fail
  refine (refdhas_any ac cl nc kc hn2 (by omega) p q _ HS2.out D hD).mono ?_; rintro e w2 ⟨rfl, hB1⟩
  replace Kx := Lib.hid (Kx.out.below hB1 Kx.out.lt)
  replace Ky := Lib.hid (Ky.out.below hB1 Ky.out.lt)
  replace HB0 := Lib.hid (bNext HB0.out hB1)
  replace HS1 := Lib.hid (HS1.out.below hB1)
  replace HS2 := Lib.hid (HS2.out.below hB1)
  clear hB1 e0 e1 c1
  have c0 : w2.cell? ⟨x, 0, none⟩ = some (.slice ab nb kb) := Kx.out.cell 0
  have c1 : w2.cell? ⟨x, 1, none⟩ = some (.slice ac nc kc) := Kx.out.cell 1
  have e0 : w2.cell? ⟨y, 0, none⟩ = some (.int .i64 p) := Ky.out.cell 0
  have e1 : w2.cell? ⟨y, 1, none⟩ = some (.int .i64 q) := Ky.out.cell 1
  have KEEP : Hid (∀ wb : World, Below w2.drew.heap.size w2.drew wb → wb.cell? ⟨x, 0, none⟩ = some (.slice ab nb kb) ∧ wb.cell? ⟨x, 1, none⟩ = some (.slice ac nc kc) ∧ wb.cell? ⟨y, 0, none⟩ = some (.int .i64 p) ∧ wb.cell? ⟨y, 1, none⟩ = some (.int .i64 q)) := by
    show ∀ wb : World, _
    intro wb h
    have h1 := Blk.below (w := w2.drew) Kx.out h Kx.out.lt
    have h2 := Blk.below (w := w2.drew) Ky.out h Ky.out.lt
    exact ⟨h1.cell 0, h1.cell 1, h2.cell 0, h2.cell 1⟩
  go_wp2_with fail
  cases C
  · obtain rfl : r = false := notB hr.out fun h => by have := h.1; rw [dotP, ← hC.out] at this; cases this
    refine wp_region_held_drew (S := fun w' => w'.cell? ⟨x, 0, none⟩ = some (.slice ab nb kb) ∧ w'.cell? ⟨x, 1, none⟩ = some (.slice ac nc kc) ∧ w'.cell? ⟨y, 0, none⟩ = some (.int .i64 p) ∧ w'.cell? ⟨y, 1, none⟩ = some (.int .i64 q)) (by kernel_rfl) (⟨c0, c1, e0, e1⟩) (fun hHeld => ?_)
    refine wpAnyH_take (i := 0) (v := ?_) (takeL rfl) (by kernel_rfl) (by kernel_rfl) (by kernel_rfl) (fun _ _ _ h => h) (Or.inl ⟨by rfl, ?_⟩) (by assumption) ?_
    rotate_left
    · (intro w hSw; (try dsimp only at hSw); first | (go_simp; done) | (go_simp; with_reducible rfl))
    try simp only [Act.put, List.setIfInBounds_toArray, List.set_cons_zero, List.set_cons_succ]
    refine wpAnyH_take (i := 1) (v := ?_) (takeL rfl) (by kernel_rfl) (by kernel_rfl) (by kernel_rfl) (fun _ _ _ h => h) (Or.inl ⟨by rfl, ?_⟩) (by assumption) ?_
    rotate_left
    · (intro w hSw; (try dsimp only at hSw); first | (go_simp; done) | (go_simp; with_reducible rfl))
    try simp only [Act.put, List.setIfInBounds_toArray, List.set_cons_zero, List.set_cons_succ]
    refine wpAnyH_take (i := 2) (v := undef) (takeL rfl) (by kernel_rfl) (by kernel_rfl) (by kernel_rfl) (fun _ _ _ h => h) (Or.inr ⟨by rfl, rfl⟩) (by assumption) ?_
    try simp only [Act.put, List.setIfInBounds_toArray, List.set_cons_zero, List.set_cons_succ]
    refine wpAnyH_take (i := 3) (v := undef) (takeL rfl) (by kernel_rfl) (by kernel_rfl) (by kernel_rfl) (fun _ _ _ h => h) (Or.inr ⟨by rfl, rfl⟩) (by assumption) ?_
    try simp only [Act.put, List.setIfInBounds_toArray, List.set_cons_zero, List.set_cons_succ]
    refine wpAnyH_take (i := 4) (v := undef) (takeL rfl) (by kernel_rfl) (by kernel_rfl) (by kernel_rfl) (fun _ _ _ h => h) (Or.inr ⟨by rfl, rfl⟩) (by assumption) ?_
    try simp only [Act.put, List.setIfInBounds_toArray, List.set_cons_zero, List.set_cons_succ]
    refine wpAnyH_take (i := 5) (v := undef) (takeL rfl) (by kernel_rfl) (by kernel_rfl) (by kernel_rfl) (fun _ _ _ h => h) (Or.inr ⟨by rfl, rfl⟩) (by assumption) ?_
    try simp only [Act.put, List.setIfInBounds_toArray, List.set_cons_zero, List.set_cons_succ]
    refine wpAnyH_take (i := 6) (v := undef) (takeL rfl) (by kernel_rfl) (by kernel_rfl) (by kernel_rfl) (fun _ _ _ h => h) (Or.inr ⟨by rfl, rfl⟩) (by assumption) ?_
    try simp only [Act.put, List.setIfInBounds_toArray, List.set_cons_zero, List.set_cons_succ]
    refine wpAnyH_take (i := 7) (v := undef) (takeL rfl) (by kernel_rfl) (by kernel_rfl) (by kernel_rfl) (fun _ _ _ h => h) (Or.inr ⟨by rfl, rfl⟩) (by assumption) ?_
    try simp only [Act.put, List.setIfInBounds_toArray, List.set_cons_zero, List.set_cons_succ]
    refine wpAnyH_take (i := 8) (v := undef) (takeL rfl) (by kernel_rfl) (by kernel_rfl) (by kernel_rfl) (fun _ _ _ h => h) (Or.inr ⟨by rfl, rfl⟩) (by assumption) ?_
    try simp only [Act.put, List.setIfInBounds_toArray, List.set_cons_zero, List.set_cons_succ]
    refine wpAnyH_take (i := 9) (v := undef) (takeL rfl) (by kernel_rfl) (by kernel_rfl) (by kernel_rfl) (fun _ _ _ h => h) (Or.inr ⟨by rfl, rfl⟩) (by assumption) ?_
    try simp only [Act.put, List.setIfInBounds_toArray, List.set_cons_zero, List.set_cons_succ]
    refine wpAnyH_take (i := 10) (v := undef) (takeL rfl) (by kernel_rfl) (by kernel_rfl) (by kernel_rfl) (fun _ _ _ h => h) (Or.inr ⟨by rfl, rfl⟩) (by assumption) ?_
    try simp only [Act.put, List.setIfInBounds_toArray, List.set_cons_zero, List.set_cons_succ]
    refine wpAnyH_take (i := 11) (v := undef) (takeL rfl) (by kernel_rfl) (by kernel_rfl) (by kernel_rfl) (fun _ _ _ h => h) (Or.inr ⟨by rfl, rfl⟩) (by assumption) ?_
    try simp only [Act.put, List.setIfInBounds_toArray, List.set_cons_zero, List.set_cons_succ]
    refine wpAnyH_take (i := 12) (v := ?_) (takeL rfl) (by kernel_rfl) (by kernel_rfl) (by kernel_rfl) (fun _ _ _ h => h) (Or.inl ⟨by rfl, ?_⟩) (by assumption) ?_
    rotate_left
    · (intro w hSw; (try dsimp only at hSw); first | (go_simp; done) | (go_simp; with_reducible rfl))
    try simp only [Act.put, List.setIfInBounds_toArray, List.set_cons_zero, List.set_cons_succ]
    refine wpAnyH_take (i := 13) (v := ?_) (takeL rfl) (by kernel_rfl) (by kernel_rfl) (by kernel_rfl) (fun _ _ _ h => h) (Or.inl ⟨by rfl, ?_⟩) (by assumption) ?_
    rotate_left
    · (intro w hSw; (try dsimp only at hSw); first | (go_simp; done) | (go_simp; with_reducible rfl))
    try simp only [Act.put, List.setIfInBounds_toArray, List.set_cons_zero, List.set_cons_succ]
    refine wpAnyH_done (by kernel_rfl) ?_ _
    go_wp2_with fail
    go_ret
    exact ⟨rfl, bDrew HB0.out⟩
  · have HC : Hid (dotP (p, q)) := hC.out.symm
    by_cases hq : q ≤ u
    · have hqd : decide (q ≤ u) = true := decide_eq_true hq
      obtain rfl : r = true := hr.out.2 ⟨HC.out, .inr (by rw [← HU.out]; exact hq)⟩
      refine wp_region_held_drew (S := fun w' => w'.cell? ⟨x, 0, none⟩ = some (.slice ab nb kb) ∧ w'.cell? ⟨x, 1, none⟩ = some (.slice ac nc kc) ∧ w'.cell? ⟨y, 0, none⟩ = some (.int .i64 p) ∧ w'.cell? ⟨y, 1, none⟩ = some (.int .i64 q)) (by kernel_rfl) (⟨c0, c1, e0, e1⟩) (fun hHeld => ?_)
      refine wpAnyH_take (i := 0) (v := ?_) (takeL rfl) (by kernel_rfl) (by kernel_rfl) (by kernel_rfl) (fun _ _ _ h => h) (Or.inl ⟨by rfl, ?_⟩) (by assumption) ?_
      rotate_left
      · (intro w hSw; (try dsimp only at hSw); first | (go_simp; done) | (go_simp; with_reducible rfl))
      try simp only [Act.put, List.setIfInBounds_toArray, List.set_cons_zero, List.set_cons_succ]
      refine wpAnyH_take (i := 1) (v := ?_) (takeL rfl) (by kernel_rfl) (by kernel_rfl) (by kernel_rfl) (fun _ _ _ h => h) (Or.inl ⟨by rfl, ?_⟩) (by assumption) ?_
      rotate_left
      · (intro w hSw; (try dsimp only at hSw); first | (go_simp; done) | (go_simp; with_reducible rfl))
      try simp only [Act.put, List.setIfInBounds_toArray, List.set_cons_zero, List.set_cons_succ]
      refine wpAnyH_take (i := 2) (v := ?_) (takeL rfl) (by kernel_rfl) (by kernel_rfl) (by kernel_rfl) (fun _ _ _ h => h) (Or.inl ⟨by rfl, ?_⟩) (by assumption) ?_
      rotate_left
      · (intro w hSw; (try dsimp only at hSw); first | (go_simp; done) | (go_simp; with_reducible rfl))
      try simp only [Act.put, List.setIfInBounds_toArray, List.set_cons_zero, List.set_cons_succ]
      refine wpAnyH_take (i := 3) (v := ?_) (takeL rfl) (by kernel_rfl) (by kernel_rfl) (by kernel_rfl) (fun _ _ _ h => h) (Or.inl ⟨by rfl, ?_⟩) (by assumption) ?_
      rotate_left
      · (intro w hSw; (try dsimp only at hSw); first | (go_simp; done) | (go_simp; with_reducible rfl))
      try simp only [Act.put, List.setIfInBounds_toArray, List.set_cons_zero, List.set_cons_succ]
      refine wpAnyH_take (i := 4) (v := ?_) (takeL rfl) (by kernel_rfl) (by kernel_rfl) (by kernel_rfl) (fun _ _ _ h => h) (Or.inl ⟨by rfl, ?_⟩) (by assumption) ?_
      rotate_left
      · (intro w hSw; (try dsimp only at hSw); first | (go_simp; done) | (go_simp; with_reducible rfl))
      try simp only [Act.put, List.setIfInBounds_toArray, List.set_cons_zero, List.set_cons_succ]
      refine wpAnyH_take (i := 5) (v := ?_) (takeL rfl) (by kernel_rfl) (by kernel_rfl) (by kernel_rfl) (fun _ _ _ h => h) (Or.inl ⟨by rfl, ?_⟩) (by assumption) ?_
      rotate_left
      · (intro w hSw; (try dsimp only at hSw); first | (go_simp; done) | (go_simp; with_reducible rfl))
      try simp only [Act.put, List.setIfInBounds_toArray, List.set_cons_zero, List.set_cons_succ]
      refine wpAnyH_take (i := 6) (v := ?_) (takeL rfl) (by kernel_rfl) (by kernel_rfl) (by kernel_rfl) (fun _ _ _ h => h) (Or.inl ⟨by rfl, ?_⟩) (by assumption) ?_
      rotate_left
      · (intro w hSw; (try dsimp only at hSw); first | (go_simp; done) | (go_simp; with_reducible rfl))
      try simp only [Act.put, List.setIfInBounds_toArray, List.set_cons_zero, List.set_cons_succ]
      refine wpAnyH_ready (rs := [7]) (by kernel_rfl) (by simp) ?_
      refine AllReadyH.cons (takeL rfl) (fun K hK => ?_) AllReadyH.nil
      go_simp
      refine (refbase_any ab ac nb kb nc kc bs hn hm p u hu _ (HS1.out.below (bDrew (Below.refl _ _)))).mono ?_; rintro e w5 ⟨rfl, hB5⟩
      go_wp2_with fail
      refine hK.out _ _ (KEEP.out _ hB5) (fun hHeld => ?_)
      clear hK K
      refine wpAnyH_take (i := 8) (v := ?_) (takeL rfl) (by kernel_rfl) (by kernel_rfl) (by kernel_rfl) (fun _ _ _ h => h) (Or.inl ⟨by rfl, ?_⟩) (by assumption) ?_
      rotate_left
      · (intro w hSw; (try dsimp only at hSw); first | (go_simp; done) | (go_simp; with_reducible rfl))
      try simp only [Act.put, List.setIfInBounds_toArray, List.set_cons_zero, List.set_cons_succ]
      refine wpAnyH_take (i := 9) (v := ?_) (takeL rfl) (by kernel_rfl) (by kernel_rfl) (by kernel_rfl) (fun _ _ _ h => h) (Or.inl ⟨by rfl, ?_⟩) (by assumption) ?_
      rotate_left
      · (intro w hSw; (try dsimp only at hSw); first | (go_simp; done) | (go_simp; with_reducible rfl))
      try simp only [Act.put, List.setIfInBounds_toArray, List.set_cons_zero, List.set_cons_succ]
      refine wpAnyH_take (i := 10) (v := undef) (takeL rfl) (by kernel_rfl) (by kernel_rfl) (by kernel_rfl) (fun _ _ _ h => h) (Or.inr ⟨by rfl, rfl⟩) (by assumption) ?_
      try simp only [Act.put, List.setIfInBounds_toArray, List.set_cons_zero, List.set_cons_succ]
      refine wpAnyH_take (i := 11) (v := ?_) (takeL rfl) (by kernel_rfl) (by kernel_rfl) (by kernel_rfl) (fun _ _ _ h => h) (Or.inl ⟨by rfl, ?_⟩) (by assumption) ?_
      rotate_left
      · (intro w hSw; (try dsimp only at hSw); first | (go_simp; done) | (go_simp; with_reducible rfl))
      try simp only [Act.put, List.setIfInBounds_toArray, List.set_cons_zero, List.set_cons_succ]
      refine wpAnyH_take (i := 12) (v := ?_) (takeL rfl) (by kernel_rfl) (by kernel_rfl) (by kernel_rfl) (fun _ _ _ h => h) (Or.inl ⟨by rfl, ?_⟩) (by assumption) ?_
      rotate_left
      · (intro w hSw; (try dsimp only at hSw); first | (go_simp; done) | (go_simp; with_reducible rfl))
      try simp only [Act.put, List.setIfInBounds_toArray, List.set_cons_zero, List.set_cons_succ]
      refine wpAnyH_take (i := 13) (v := ?_) (takeL rfl) (by kernel_rfl) (by kernel_rfl) (by kernel_rfl) (fun _ _ _ h => h) (Or.inl ⟨by rfl, ?_⟩) (by assumption) ?_
      rotate_left
      · (intro w hSw; (try dsimp only at hSw); first | (go_simp; done) | (go_simp; with_reducible rfl))
      try simp only [Act.put, List.setIfInBounds_toArray, List.set_cons_zero, List.set_cons_succ]
      refine wpAnyH_done (by kernel_rfl) ?_ _
      go_wp2_with fail
      go_ret
      exact ⟨rfl, bNext (bDrew HB0.out) hB5⟩
    · have hqd : decide (q ≤ u) = false := decide_eq_false hq
      obtain rfl : r = D := by
        cases D
        · refine notB hr.out fun h => ?_
          rcases h.2 with h | h
          · have := hD.out; rw [decide_eq_true h] at this; cases this
          · rw [← HU.out] at h; exact hq h
        · refine hr.out.2 ⟨HC.out, .inl ?_⟩
          simpa using hD.out.symm
      refine wp_region_held_drew (S := fun w' => w'.cell? ⟨x, 0, none⟩ = some (.slice ab nb kb) ∧ w'.cell? ⟨x, 1, none⟩ = some (.slice ac nc kc) ∧ w'.cell? ⟨y, 0, none⟩ = some (.int .i64 p) ∧ w'.cell? ⟨y, 1, none⟩ = some (.int .i64 q)) (by kernel_rfl) (⟨c0, c1, e0, e1⟩) (fun hHeld => ?_)
      refine wpAnyH_take (i := 0) (v := ?_) (takeL rfl) (by kernel_rfl) (by kernel_rfl) (by kernel_rfl) (fun _ _ _ h => h) (Or.inl ⟨by rfl, ?_⟩) (by assumption) ?_
      rotate_left
      · (intro w hSw; (try dsimp only at hSw); first | (go_simp; done) | (go_simp; with_reducible rfl))
      try simp only [Act.put, List.setIfInBounds_toArray, List.set_cons_zero, List.set_cons_succ]
      refine wpAnyH_take (i := 1) (v := ?_) (takeL rfl) (by kernel_rfl) (by kernel_rfl) (by kernel_rfl) (fun _ _ _ h => h) (Or.inl ⟨by rfl, ?_⟩) (by assumption) ?_
      rotate_left
      · (intro w hSw; (try dsimp only at hSw); first | (go_simp; done) | (go_simp; with_reducible rfl))
      try simp only [Act.put, List.setIfInBounds_toArray, List.set_cons_zero, List.set_cons_succ]
      refine wpAnyH_take (i := 2) (v := ?_) (takeL rfl) (by kernel_rfl) (by kernel_rfl) (by kernel_rfl) (fun _ _ _ h => h) (Or.inl ⟨by rfl, ?_⟩) (by assumption) ?_
      rotate_left
      · (intro w hSw; (try dsimp only at hSw); first | (go_simp; done) | (go_simp; with_reducible rfl))
      try simp only [Act.put, List.setIfInBounds_toArray, List.set_cons_zero, List.set_cons_succ]
      refine wpAnyH_take (i := 3) (v := ?_) (takeL rfl) (by kernel_rfl) (by kernel_rfl) (by kernel_rfl) (fun _ _ _ h => h) (Or.inl ⟨by rfl, ?_⟩) (by assumption) ?_
      rotate_left
      · (intro w hSw; (try dsimp only at hSw); first | (go_simp; done) | (go_simp; with_reducible rfl))
      try simp only [Act.put, List.setIfInBounds_toArray, List.set_cons_zero, List.set_cons_succ]
      refine wpAnyH_take (i := 4) (v := ?_) (takeL rfl) (by kernel_rfl) (by kernel_rfl) (by kernel_rfl) (fun _ _ _ h => h) (Or.inl ⟨by rfl, ?_⟩) (by assumption) ?_
      rotate_left
      · (intro w hSw; (try dsimp only at hSw); first | (go_simp; done) | (go_simp; with_reducible rfl))
      try simp only [Act.put, List.setIfInBounds_toArray, List.set_cons_zero, List.set_cons_succ]
      refine wpAnyH_take (i := 5) (v := ?_) (takeL rfl) (by kernel_rfl) (by kernel_rfl) (by kernel_rfl) (fun _ _ _ h => h) (Or.inl ⟨by rfl, ?_⟩) (by assumption) ?_
      rotate_left
      · (intro w hSw; (try dsimp only at hSw); first | (go_simp; done) | (go_simp; with_reducible rfl))
      try simp only [Act.put, List.setIfInBounds_toArray, List.set_cons_zero, List.set_cons_succ]
      refine wpAnyH_take (i := 6) (v := ?_) (takeL rfl) (by kernel_rfl) (by kernel_rfl) (by kernel_rfl) (fun _ _ _ h => h) (Or.inl ⟨by rfl, ?_⟩) (by assumption) ?_
      rotate_left
      · (intro w hSw; (try dsimp only at hSw); first | (go_simp; done) | (go_simp; with_reducible rfl))
      try simp only [Act.put, List.setIfInBounds_toArray, List.set_cons_zero, List.set_cons_succ]
      refine wpAnyH_ready (rs := [7]) (by kernel_rfl) (by simp) ?_
      refine AllReadyH.cons (takeL rfl) (fun K hK => ?_) AllReadyH.nil
      go_simp
      refine (refbase_any ab ac nb kb nc kc bs hn hm p u hu _ (HS1.out.below (bDrew (Below.refl _ _)))).mono ?_; rintro e w5 ⟨rfl, hB5⟩
      go_wp2_with fail
      refine hK.out _ _ (KEEP.out _ hB5) (fun hHeld => ?_)
      clear hK K
      refine wpAnyH_take (i := 8) (v := ?_) (takeL rfl) (by kernel_rfl) (by kernel_rfl) (by kernel_rfl) (fun _ _ _ h => h) (Or.inl ⟨by rfl, ?_⟩) (by assumption) ?_
      rotate_left
      · (intro w hSw; (try dsimp only at hSw); first | (go_simp; done) | (go_simp; with_reducible rfl))
      try simp only [Act.put, List.setIfInBounds_toArray, List.set_cons_zero, List.set_cons_succ]
      refine wpAnyH_take (i := 9) (v := ?_) (takeL rfl) (by kernel_rfl) (by kernel_rfl) (by kernel_rfl) (fun _ _ _ h => h) (Or.inl ⟨by rfl, ?_⟩) (by assumption) ?_
      rotate_left
      · (intro w hSw; (try dsimp only at hSw); first | (go_simp; done) | (go_simp; with_reducible rfl))
      try simp only [Act.put, List.setIfInBounds_toArray, List.set_cons_zero, List.set_cons_succ]
      refine wpAnyH_take (i := 10) (v := ?_) (takeL rfl) (by kernel_rfl) (by kernel_rfl) (by kernel_rfl) (fun _ _ _ h => h) (Or.inl ⟨by rfl, ?_⟩) (by assumption) ?_
      rotate_left
      · (intro w hSw; (try dsimp only at hSw); first | (go_simp; done) | (go_simp; with_reducible rfl))
      try simp only [Act.put, List.setIfInBounds_toArray, List.set_cons_zero, List.set_cons_succ]
      refine wpAnyH_take (i := 11) (v := ?_) (takeL rfl) (by kernel_rfl) (by kernel_rfl) (by kernel_rfl) (fun _ _ _ h => h) (Or.inl ⟨by rfl, ?_⟩) (by assumption) ?_
      rotate_left
      · (intro w hSw; (try dsimp only at hSw); first | (go_simp; done) | (go_simp; with_reducible rfl))
      try simp only [Act.put, List.setIfInBounds_toArray, List.set_cons_zero, List.set_cons_succ]
      refine wpAnyH_take (i := 12) (v := ?_) (takeL rfl) (by kernel_rfl) (by kernel_rfl) (by kernel_rfl) (fun _ _ _ h => h) (Or.inl ⟨by rfl, ?_⟩) (by assumption) ?_
      rotate_left
      · (intro w hSw; (try dsimp only at hSw); first | (go_simp; done) | (go_simp; with_reducible rfl))
      try simp only [Act.put, List.setIfInBounds_toArray, List.set_cons_zero, List.set_cons_succ]
      refine wpAnyH_take (i := 13) (v := ?_) (takeL rfl) (by kernel_rfl) (by kernel_rfl) (by kernel_rfl) (fun _ _ _ h => h) (Or.inl ⟨by rfl, ?_⟩) (by assumption) ?_
      rotate_left
      · (intro w hSw; (try dsimp only at hSw); first | (go_simp; done) | (go_simp; with_reducible rfl))
      try simp only [Act.put, List.setIfInBounds_toArray, List.set_cons_zero, List.set_cons_succ]
      refine wpAnyH_done (by kernel_rfl) ?_ _
      go_wp2_with fail
      go_ret
      exact ⟨rfl, bNext (bDrew HB0.out) hB5⟩
end Go.Proofs.YtfpjdmplepepjaaGreat

