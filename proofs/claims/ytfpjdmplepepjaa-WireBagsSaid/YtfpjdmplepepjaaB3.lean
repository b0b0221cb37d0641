/- Contexts, catalogues, views as bytes. (and what stands on it: 18 texts in one) -/
import Derived.WalkMore
import Derived.Deep.AppendLies
import Derived.Deep.RegionHeld3
import Derived.Shelf.RegionOpenPlain
import Derived.OwnWalk
import Derived.Deep.RegionLaw
import Derived.Laws.AppendOwnNone
import Derived.Outline
import Derived.Deep.DeepCutAuto
import Derived.BigQuiet
import Derived.Deep.QuietTactic
import Derived.Test.YtfpjdmplepepjaaB2
import Derived.Test.YtfpjdmplepepjaaB1
/-! WBytes: Contexts, catalogues, views as bytes. -/
namespace Go.Proofs.Ytfpjdmplepepjaa
open Go.RowKit

theorem text_is (t : ByteArray) (s : ByteArray) (hs : Hid (s = ofL (textL (bl t)))) (w : World) (ht : t.size ≤ 1000000) :
    Calls Try.prog 22 #[.string t] w fun e w' => e = .returned (.string s) ∧ Below w.heap.size w w' := by rw [hs.out]; exact text_any t w (by omega)
theorem row_is (ao : Option Addr) (ps : List Dot2) (n cap : Nat) (hn : Hid (ps.length = n)) (hm : n ≤ 1000000) (hin : Hid (∀ p ∈ ps, upDot p)) (w : World) (hs : SlP w ao ps) (s : ByteArray) (hss : Hid (s = ofL (rowL dotL ps))) :
    Calls Try.prog 93 #[.slice ao n cap] w fun e w' => e = .returned (.string s) ∧ Below w.heap.size w w' :=
  row_any ao ps n cap hn hm (show ∀ p ∈ ps, InD p from fun p hp => ⟨(hin.out p hp).1.2, (hin.out p hp).2.2⟩) w hs s hss
theorem dots_le (ps : List Dot2) (n : Nat) (hn : ps.length = n) (hm : n ≤ 1000000) (h : ∀ p ∈ ps, upDot p) : (rowL dotL ps).length ≤ 10 + 20 * 1000000 := by
  have := rowL_le (f := dotL) (m := 20) ps (by omega) fun p hp => dotL_le (h p hp)
  rw [hn] at this; omega

set_option maxRecDepth 100000 in
set_option maxHeartbeats 4000000 in
theorem ctxbytes_any (ab ac : Option Addr) (nb kb nc kc : Nat) (bs cl : List Dot2) (hn : Hid (bs.length = nb)) (hm : nb ≤ 1000000) (hn2 : Hid (cl.length = nc)) (hm2 : nc ≤ 1000000) (h1 : Hid (∀ p ∈ bs, upDot p)) (h2 : Hid (∀ p ∈ cl, upDot p)) (s : ByteArray) (hs : Hid (s = ofL (ctxL bs cl))) (w : World) (g1 : SlP w ab bs) (g2 : SlP w ac cl) :
    Calls Try.prog 58 #[.agg #[.slice ab nb kb, .slice ac nc kc]] w fun e w' => e = .returned (.string s) ∧ Below w.heap.size w w' := by
  obtain ⟨w0, hw0⟩ := nm (w.alloc (.cells #[.slice ab nb kb, .slice ac nc kc] 25))
  obtain ⟨x, hx⟩ := nm w.heap.size
  have Kx : Hid (Blk w0 x #[.slice ab nb kb, .slice ac nc kc] 25) := blkN hw0.out hx.out
  have HB0 : Hid (Below w.heap.size w w0) := by rw [hw0.out]; exact bOld _
  have HS1 : Hid (SlP w0 ab bs) := g1.below HB0.out
  have HS2 : Hid (SlP w0 ac cl) := g2.below HB0.out
  clear g1 g2
  obtain ⟨s1, hs1⟩ := nm (ofL (rowL dotL bs))
  obtain ⟨s2, hs2⟩ := nm (ofL (rowL dotL cl))
  have hsum : Hid (s1 ++ s2 = s) := by show _ = _; rw [hs.out, hs1.out, hs2.out, ofL_append]; rfl
  have l1 : s1.size ≤ 10 + 20 * 1000000 := by rw [hs1.out, ofL_size]; exact dots_le bs nb hn.out hm h1.out
  have l2 : s2.size ≤ 10 + 20 * 1000000 := by rw [hs2.out, ofL_size]; exact dots_le cl nc hn2.out hm2 h2.out
  have hadd := fun w : World => run_string_add_sum (P := Try.prog) w s1 s2 (by omega)
  clear l1 l2
  have c0 : w0.cell? ⟨x, 0, none⟩ = some (.slice ab nb kb) := Kx.out.cell 0
  have c1 : w0.cell? ⟨x, 1, none⟩ = some (.slice ac nc kc) := Kx.out.cell 1
  have KEEP : Hid (∀ wb : World, Below w0.drew.heap.size w0.drew wb → wb.cell? ⟨x, 0, none⟩ = some (.slice ab nb kb) ∧ wb.cell? ⟨x, 1, none⟩ = some (.slice ac nc kc)) := by
    show ∀ wb : World, _
    intro wb h
    have h1 := Blk.below (w := w0.drew) Kx.out h Kx.out.lt
    exact ⟨h1.cell 0, h1.cell 1⟩
  go_enter Try.func58, Try.ntmps58
  go_upto_region 1 with fail
  rw [← hw0.out, ← hx.out]
  refine wp_region_held_drew (S := fun w' => w'.cell? ⟨x, 0, none⟩ = some (.slice ab nb kb) ∧ w'.cell? ⟨x, 1, none⟩ = some (.slice ac nc kc)) (by kernel_rfl) (⟨c0, c1⟩) (fun hHeld => ?_)
  refine wpAnyH_take (i := 0) (v := ?_) (takeL rfl) (by kernel_rfl) (by kernel_rfl) (by kernel_rfl) (fun _ _ _ h => h) (Or.inl ⟨by rfl, ?_⟩) (by assumption) ?_
  rotate_left
  · (intro w hSw; (try dsimp only at hSw); first | (go_simp; done) | (go_simp; with_reducible rfl))
  try simp only [Act.put, List.setIfInBounds_toArray, List.set_cons_zero, List.set_cons_succ]
  refine wpAnyH_take (i := 1) (v := ?_) (takeL rfl) (by kernel_rfl) (by kernel_rfl) (by kernel_rfl) (fun _ _ _ h => h) (Or.inl ⟨by rfl, ?_⟩) (by assumption) ?_
  rotate_left
  · (intro w hSw; (try dsimp only at hSw); first | (go_simp; done) | (go_simp; with_reducible rfl))
  try simp only [Act.put, List.setIfInBounds_toArray, List.set_cons_zero, List.set_cons_succ]
  refine wpAnyH_take (i := 3) (v := ?_) (takeL rfl) (by kernel_rfl) (by kernel_rfl) (by kernel_rfl) (fun _ _ _ h => h) (Or.inl ⟨by rfl, ?_⟩) (by assumption) ?_
  rotate_left
  · (intro w hSw; (try dsimp only at hSw); first | (go_simp; done) | (go_simp; with_reducible rfl))
  try simp only [Act.put, List.setIfInBounds_toArray, List.set_cons_zero, List.set_cons_succ]
  refine wpAnyH_take (i := 4) (v := ?_) (takeL rfl) (by kernel_rfl) (by kernel_rfl) (by kernel_rfl) (fun _ _ _ h => h) (Or.inl ⟨by rfl, ?_⟩) (by assumption) ?_
  rotate_left
  · (intro w hSw; (try dsimp only at hSw); first | (go_simp; done) | (go_simp; with_reducible rfl))
  try simp only [Act.put, List.setIfInBounds_toArray, List.set_cons_zero, List.set_cons_succ]
  refine wpAnyH_ready (rs := [2]) (by kernel_rfl) (by simp) ?_
  refine AllReadyH.cons (takeL rfl) (fun K hK => ?_) AllReadyH.nil
  go_simp
  refine (row_is ab bs nb kb hn hm h1 _ (HS1.out.below (bDrew (Below.refl _ _))) s1 hs1).mono ?_; rintro e w1 ⟨rfl, hB1⟩
  go_wp2_with fail
  refine hK.out _ _ (KEEP.out _ hB1) (fun hHeld => ?_)
  clear hK K
  refine wpAnyH_ready (rs := [5]) (by kernel_rfl) (by simp) ?_
  refine AllReadyH.cons (takeL rfl) (fun K hK => ?_) AllReadyH.nil
  go_simp
  refine (row_is ac cl nc kc hn2 hm2 h2 _ (HS2.out.below (bNext (bDrew (Below.refl _ _)) hB1)) s2 hs2).mono ?_; rintro e w2 ⟨rfl, hB2⟩
  go_wp2_with fail
  refine hK.out _ _ (KEEP.out _ (bNext hB1 hB2)) (fun hHeld => ?_)
  clear hK K
  refine wpAnyH_take (i := 6) (v := ?_) (takeL rfl) (by kernel_rfl) (by kernel_rfl) (by kernel_rfl) (fun _ _ _ h => h) (Or.inl ⟨by rfl, ?_⟩) (by assumption) ?_
  rotate_left
  · (intro w hSw; (try dsimp only at hSw); first | (go_simp; done) | (go_simp; with_reducible rfl))
  try simp only [Act.put, List.setIfInBounds_toArray, List.set_cons_zero, List.set_cons_succ]
  refine wpAnyH_take (i := 7) (v := ?_) (takeL rfl) (by kernel_rfl) (by kernel_rfl) (by kernel_rfl) (fun _ _ _ h => h) (Or.inl ⟨by rfl, ?_⟩) (by assumption) ?_
  rotate_left
  · (intro w hSw; (try dsimp only at hSw); first | (go_simp; done) | (go_simp; with_reducible rfl))
  try simp only [Act.put, List.setIfInBounds_toArray, List.set_cons_zero, List.set_cons_succ]
  refine wpAnyH_done (by kernel_rfl) ?_ _
  go_wp2_with fail
  go_ret
  exact ⟨congrArg (fun t => Ending.returned (Value.string t)) hsum.out, bNext (bDrew HB0.out) (bNext hB1 hB2)⟩

set_option maxRecDepth 100000 in
set_option maxHeartbeats 4000000 in
theorem tagbytes_any (ao : Option Addr) (n cap : Nat) (xs : List Tag2) (hn : Hid (xs.length = n)) (hm : n ≤ 1000000) (hin : Hid (∀ x ∈ xs, upTag x)) (s : ByteArray) (hss : Hid (s = ofL (rowL tagL xs))) (w : World) (hs : SlE eTag 2 w ao xs) :
    Calls Try.prog 24 #[.slice ao n cap] w fun e w' => e = .returned (.string s) ∧ Below w.heap.size w w' := by
  have HS := Lib.hid hs
  clear hs
  obtain ⟨s0, h0⟩ := nm (ofL (Pl.num n))
  have l0 : s0.size ≤ 10 := by rw [h0.out, ofL_size]; exact Pl.num_length_le _ (by omega)
  go_enter Try.func24, Try.ntmps24
  go_wp2_with fail
  refine (int_is (n : Int) s0 h0 _ (by omega)).mono ?_; rintro e w1 ⟨rfl, hB1⟩
  go_wp2_with fail
  go_loopw [3, 11] (fun v i wr => ∃ (k : Nat) (t : ByteArray), k ≤ n ∧ i = .int .i64 (k : Int) ∧ v = .string t ∧ t.size ≤ 10 + 1000020 * k ∧ Below w.heap.size w wr ∧ Hid (t = s0 ++ ofL ((xs.take k).flatMap tagL))) (fun _ i _ => n - (intOf i).toNat)
  case atStart => exact ⟨0, s0, by omega, rfl, rfl, by omega, hB1, by show _ = _; rw [List.take_zero]; exact (append_nil s0).symm⟩
  case round =>
    obtain ⟨k, t, hk, rfl, rfl, ht, hB, hT⟩ := hrel
    by_cases hlt : k < n
    · obtain ⟨b, off, ⟨u, v⟩, rfl, hbl, hpk, hcells⟩ := (HS.out.below hB).get k (by rw [hn.out]; exact hlt)
      have d0 : wr.cell? ⟨b, off + k * 2, none⟩ = some (.string u) := hcells 0 _ rfl
      have d1 : wr.cell? ⟨b, off + k * 2 + 1, none⟩ = some (.int .i64 v) := hcells 1 _ rfl
      clear hcells
      obtain ⟨q1, q2⟩ := hin.out _ (List.mem_of_getElem? hpk.out)
      simp only at q1 q2
      obtain ⟨s1, h1⟩ := nm (ofL (textL (bl u)))
      obtain ⟨s2, h2⟩ := nm (ofL (Pl.num v.toNat))
      have l1 : s1.size ≤ 1000010 := by rw [h1.out, ofL_size]; have := textL_le q1 (Nat.le_refl _); omega
      have l2 : s2.size ≤ 10 := by rw [h2.out, ofL_size]; exact num_le q2
      have hts : (t ++ (s1 ++ s2)).size ≤ 10 + 1000020 * (k + 1) := by rw [app_size, app_size]; omega
      have k1 := fun w : World => run_string_add_sum (P := Try.prog) w s1 s2 (by omega)
      have k2 := fun w : World => run_string_add_sum (P := Try.prog) w t (s1 ++ s2) (by rw [app_size]; omega)
      have HT : Hid (t ++ (s1 ++ s2) = s0 ++ ofL ((xs.take (k + 1)).flatMap tagL)) := by
        show _ = _
        rw [hT.out, h1.out, h2.out, flat_take hpk.out, ← ofL_append, app_assoc, ofL_append (textL _)]; rfl
      clear hT
      obtain ⟨y, hy⟩ := nm wr.heap.size
      obtain ⟨w3, hw3⟩ := nm (wr.alloc (.cells #[.string u, .int .i64 v] 57))
      have Ky : Hid (Blk w3 y #[.string u, .int .i64 v] 57) := blkN hw3.out hy.out
      have HB3 : Hid (Below w.heap.size w w3) := by rw [hw3.out]; exact bNew hB _
      have e0 : w3.cell? ⟨y, 0, none⟩ = some (.string u) := Ky.out.cell 0
      have e1 : w3.cell? ⟨y, 1, none⟩ = some (.int .i64 v) := Ky.out.cell 1
      clear hB
      have KEEP : Hid (∀ wb : World, Below w3.drew.heap.size w3.drew wb → wb.cell? ⟨y, 0, none⟩ = some (.string u) ∧ wb.cell? ⟨y, 1, none⟩ = some (.int .i64 v)) := by
        show ∀ wb : World, _
        intro wb h
        have h2 := Blk.below (w := w3.drew) Ky.out h Ky.out.lt
        exact ⟨h2.cell 0, h2.cell 1⟩
      go_wp2_with fail
      rw [← hw3.out, ← hy.out]
      refine wp_region_held_drew (S := fun w' => w'.cell? ⟨y, 0, none⟩ = some (.string u) ∧ w'.cell? ⟨y, 1, none⟩ = some (.int .i64 v)) (by kernel_rfl) (⟨e0, e1⟩) (fun hHeld => ?_)
      refine wpAnyH_take (i := 0) (v := ?_) (takeL rfl) (by kernel_rfl) (by kernel_rfl) (by kernel_rfl) (fun _ _ _ h => h) (Or.inl ⟨by rfl, ?_⟩) (by assumption) ?_
      rotate_left
      · (intro w hSw; (try dsimp only at hSw); first | (go_simp; done) | (go_simp; with_reducible rfl))
      try simp only [Act.put, List.setIfInBounds_toArray, List.set_cons_zero, List.set_cons_succ]
      refine wpAnyH_take (i := 1) (v := ?_) (takeL rfl) (by kernel_rfl) (by kernel_rfl) (by kernel_rfl) (fun _ _ _ h => h) (Or.inl ⟨by rfl, ?_⟩) (by assumption) ?_
      rotate_left
      · (intro w hSw; (try dsimp only at hSw); first | (go_simp; done) | (go_simp; with_reducible rfl))
      try simp only [Act.put, List.setIfInBounds_toArray, List.set_cons_zero, List.set_cons_succ]
      refine wpAnyH_take (i := 2) (v := ?_) (takeL rfl) (by kernel_rfl) (by kernel_rfl) (by kernel_rfl) (fun _ _ _ h => h) (Or.inl ⟨by rfl, ?_⟩) (by assumption) ?_
      rotate_left
      · (intro w hSw; (try dsimp only at hSw); first | (go_simp; done) | (go_simp; with_reducible rfl))
      try simp only [Act.put, List.setIfInBounds_toArray, List.set_cons_zero, List.set_cons_succ]
      refine wpAnyH_take (i := 4) (v := ?_) (takeL rfl) (by kernel_rfl) (by kernel_rfl) (by kernel_rfl) (fun _ _ _ h => h) (Or.inl ⟨by rfl, ?_⟩) (by assumption) ?_
      rotate_left
      · (intro w hSw; (try dsimp only at hSw); first | (go_simp; done) | (go_simp; with_reducible rfl))
      try simp only [Act.put, List.setIfInBounds_toArray, List.set_cons_zero, List.set_cons_succ]
      refine wpAnyH_take (i := 5) (v := ?_) (takeL rfl) (by kernel_rfl) (by kernel_rfl) (by kernel_rfl) (fun _ _ _ h => h) (Or.inl ⟨by rfl, ?_⟩) (by assumption) ?_
      rotate_left
      · (intro w hSw; (try dsimp only at hSw); first | (go_simp; done) | (go_simp; with_reducible rfl))
      try simp only [Act.put, List.setIfInBounds_toArray, List.set_cons_zero, List.set_cons_succ]
      refine wpAnyH_ready (rs := [3]) (by kernel_rfl) (by simp) ?_
      refine AllReadyH.cons (takeL rfl) (fun K hK => ?_) AllReadyH.nil
      go_simp
      refine (text_is u s1 h1 _ q1).mono ?_; rintro e w4 ⟨rfl, hB4⟩
      go_wp2_with fail
      refine hK.out _ _ (KEEP.out _ hB4) (fun hHeld => ?_)
      clear hK K
      refine wpAnyH_ready (rs := [6]) (by kernel_rfl) (by simp) ?_
      refine AllReadyH.cons (takeL rfl) (fun K hK => ?_) AllReadyH.nil
      go_simp
      refine (int_is v s2 h2 _ q2.2).mono ?_; rintro e w5 ⟨rfl, hB5⟩
      go_wp2_with fail
      refine hK.out _ _ (KEEP.out _ (bNext hB4 hB5)) (fun hHeld => ?_)
      clear hK K
      refine wpAnyH_take (i := 7) (v := ?_) (takeL rfl) (by kernel_rfl) (by kernel_rfl) (by kernel_rfl) (fun _ _ _ h => h) (Or.inl ⟨by rfl, ?_⟩) (by assumption) ?_
      rotate_left
      · (intro w hSw; (try dsimp only at hSw); first | (go_simp; done) | (go_simp; with_reducible rfl))
      try simp only [Act.put, List.setIfInBounds_toArray, List.set_cons_zero, List.set_cons_succ]
      refine wpAnyH_take (i := 8) (v := ?_) (takeL rfl) (by kernel_rfl) (by kernel_rfl) (by kernel_rfl) (fun _ _ _ h => h) (Or.inl ⟨by rfl, ?_⟩) (by assumption) ?_
      rotate_left
      · (intro w hSw; (try dsimp only at hSw); first | (go_simp; done) | (go_simp; with_reducible rfl))
      try simp only [Act.put, List.setIfInBounds_toArray, List.set_cons_zero, List.set_cons_succ]
      refine wpAnyH_take (i := 9) (v := ?_) (takeL rfl) (by kernel_rfl) (by kernel_rfl) (by kernel_rfl) (fun _ _ _ h => h) (Or.inl ⟨by rfl, ?_⟩) (by assumption) ?_
      rotate_left
      · (intro w hSw; (try dsimp only at hSw); first | (go_simp; done) | (go_simp; with_reducible rfl))
      try simp only [Act.put, List.setIfInBounds_toArray, List.set_cons_zero, List.set_cons_succ]
      refine wpAnyH_done (by kernel_rfl) ?_ _
      go_wp2_with fail
      go_roundw
      case rel => exact ⟨k + 1, t ++ (s1 ++ s2), by omega, by go_num, rfl, hts, bNext (bDrew HB3.out) (bNext hB4 hB5), HT⟩
      case measure => simp [intOf]; omega
    · obtain rfl : k = n := by omega
      have HE : Hid (t = s) := by
        show _ = _
        rw [hT.out, hss.out, h0.out, List.take_of_length_le (by rw [hn.out]; exact Nat.le_refl _), ofL_append, rowL, hn.out]
      go_wp2_with fail
      go_ret
      rw [HE.out]
      exact ⟨rfl, hB⟩

set_option maxRecDepth 100000 in
set_option maxHeartbeats 4000000 in
theorem viewbytes_any (ao : Option Addr) (n cap : Nat) (xs : List Peer3) (hn : Hid (xs.length = n)) (hm : n ≤ 1000000) (hin : Hid (∀ x ∈ xs, upPeer x)) (s : ByteArray) (hss : Hid (s = ofL (rowL peerL xs))) (w : World) (hs : SlE ePeer 3 w ao xs) :
    Calls Try.prog 25 #[.slice ao n cap] w fun e w' => e = .returned (.string s) ∧ Below w.heap.size w w' := by
  have HS := Lib.hid hs
  clear hs
  obtain ⟨s0, h0⟩ := nm (ofL (Pl.num n))
  have l0 : s0.size ≤ 10 := by rw [h0.out, ofL_size]; exact Pl.num_length_le _ (by omega)
  go_enter Try.func25, Try.ntmps25
  go_wp2_with fail
  refine (int_is (n : Int) s0 h0 _ (by omega)).mono ?_; rintro e w1 ⟨rfl, hB1⟩
  go_wp2_with fail
  go_loopw [3, 11] (fun v i wr => ∃ (k : Nat) (t : ByteArray), k ≤ n ∧ i = .int .i64 (k : Int) ∧ v = .string t ∧ t.size ≤ 10 + 30 * k ∧ Below w.heap.size w wr ∧ Hid (t = s0 ++ ofL ((xs.take k).flatMap peerL))) (fun _ i _ => n - (intOf i).toNat)
  case atStart => exact ⟨0, s0, by omega, rfl, rfl, by omega, hB1, by show _ = _; rw [List.take_zero]; exact (append_nil s0).symm⟩
  case round =>
    obtain ⟨k, t, hk, rfl, rfl, ht, hB, hT⟩ := hrel
    by_cases hlt : k < n
    · obtain ⟨b, off, ⟨u, v, z⟩, rfl, hbl, hpk, hcells⟩ := (HS.out.below hB).get k (by rw [hn.out]; exact hlt)
      have d0 : wr.cell? ⟨b, off + k * 3, none⟩ = some (.int .i64 u) := hcells 0 _ rfl
      have d1 : wr.cell? ⟨b, off + k * 3 + 1, none⟩ = some (.int .i64 v) := hcells 1 _ rfl
      have d2 : wr.cell? ⟨b, off + k * 3 + 2, none⟩ = some (.int .i64 z) := hcells 2 _ rfl
      clear hcells
      obtain ⟨q1, q2, q3⟩ := hin.out _ (List.mem_of_getElem? hpk.out)
      simp only at q1 q2 q3
      obtain ⟨s1, h1⟩ := nm (ofL (Pl.num u.toNat))
      obtain ⟨s2, h2⟩ := nm (ofL (Pl.num v.toNat))
      obtain ⟨s3, h3⟩ := nm (ofL (Pl.num z.toNat))
      have l1 : s1.size ≤ 10 := by rw [h1.out, ofL_size]; exact num_le q1
      have l2 : s2.size ≤ 10 := by rw [h2.out, ofL_size]; exact num_le q2
      have l3 : s3.size ≤ 10 := by rw [h3.out, ofL_size]; exact num_le q3
      have hts : (t ++ (s1 ++ s2 ++ s3)).size ≤ 10 + 30 * (k + 1) := by rw [app_size, app_size, app_size]; omega
      have k1 := fun w : World => run_string_add_sum (P := Try.prog) w s1 s2 (by omega)
      have k2 := fun w : World => run_string_add_sum (P := Try.prog) w (s1 ++ s2) s3 (by rw [app_size]; omega)
      have k3 := fun w : World => run_string_add_sum (P := Try.prog) w t (s1 ++ s2 ++ s3) (by rw [app_size, app_size]; omega)
      have HT : Hid (t ++ (s1 ++ s2 ++ s3) = s0 ++ ofL ((xs.take (k + 1)).flatMap peerL)) := by
        show _ = _
        rw [hT.out, h1.out, h2.out, h3.out, flat_take hpk.out, ← ofL_append, app_assoc, ofL_append, ofL_append, List.append_assoc]; rfl
      clear hT
      obtain ⟨y, hy⟩ := nm wr.heap.size
      obtain ⟨w3, hw3⟩ := nm (wr.alloc (.cells #[.int .i64 u, .int .i64 v, .int .i64 z] 82))
      have Ky : Hid (Blk w3 y #[.int .i64 u, .int .i64 v, .int .i64 z] 82) := blkN hw3.out hy.out
      have HB3 : Hid (Below w.heap.size w w3) := by rw [hw3.out]; exact bNew hB _
      have e0 : w3.cell? ⟨y, 0, none⟩ = some (.int .i64 u) := Ky.out.cell 0
      have e1 : w3.cell? ⟨y, 1, none⟩ = some (.int .i64 v) := Ky.out.cell 1
      have e2 : w3.cell? ⟨y, 2, none⟩ = some (.int .i64 z) := Ky.out.cell 2
      clear hB
      have KEEP : Hid (∀ wb : World, Below w3.drew.heap.size w3.drew wb → wb.cell? ⟨y, 0, none⟩ = some (.int .i64 u) ∧ wb.cell? ⟨y, 1, none⟩ = some (.int .i64 v) ∧ wb.cell? ⟨y, 2, none⟩ = some (.int .i64 z)) := by
        show ∀ wb : World, _
        intro wb h
        have h2 := Blk.below (w := w3.drew) Ky.out h Ky.out.lt
        exact ⟨h2.cell 0, h2.cell 1, h2.cell 2⟩
      go_wp2_with fail
      rw [← hw3.out, ← hy.out]
      refine wp_region_held_drew (S := fun w' => w'.cell? ⟨y, 0, none⟩ = some (.int .i64 u) ∧ w'.cell? ⟨y, 1, none⟩ = some (.int .i64 v) ∧ w'.cell? ⟨y, 2, none⟩ = some (.int .i64 z)) (by kernel_rfl) (⟨e0, e1, e2⟩) (fun hHeld => ?_)
      refine wpAnyH_take (i := 0) (v := ?_) (takeL rfl) (by kernel_rfl) (by kernel_rfl) (by kernel_rfl) (fun _ _ _ h => h) (Or.inl ⟨by rfl, ?_⟩) (by assumption) ?_
      rotate_left
      · (intro w hSw; (try dsimp only at hSw); first | (go_simp; done) | (go_simp; with_reducible rfl))
      try simp only [Act.put, List.setIfInBounds_toArray, List.set_cons_zero, List.set_cons_succ]
      refine wpAnyH_take (i := 1) (v := ?_) (takeL rfl) (by kernel_rfl) (by kernel_rfl) (by kernel_rfl) (fun _ _ _ h => h) (Or.inl ⟨by rfl, ?_⟩) (by assumption) ?_
      rotate_left
      · (intro w hSw; (try dsimp only at hSw); first | (go_simp; done) | (go_simp; with_reducible rfl))
      try simp only [Act.put, List.setIfInBounds_toArray, List.set_cons_zero, List.set_cons_succ]
      refine wpAnyH_take (i := 2) (v := ?_) (takeL rfl) (by kernel_rfl) (by kernel_rfl) (by kernel_rfl) (fun _ _ _ h => h) (Or.inl ⟨by rfl, ?_⟩) (by assumption) ?_
      rotate_left
      · (intro w hSw; (try dsimp only at hSw); first | (go_simp; done) | (go_simp; with_reducible rfl))
      try simp only [Act.put, List.setIfInBounds_toArray, List.set_cons_zero, List.set_cons_succ]
      refine wpAnyH_take (i := 4) (v := ?_) (takeL rfl) (by kernel_rfl) (by kernel_rfl) (by kernel_rfl) (fun _ _ _ h => h) (Or.inl ⟨by rfl, ?_⟩) (by assumption) ?_
      rotate_left
      · (intro w hSw; (try dsimp only at hSw); first | (go_simp; done) | (go_simp; with_reducible rfl))
      try simp only [Act.put, List.setIfInBounds_toArray, List.set_cons_zero, List.set_cons_succ]
      refine wpAnyH_take (i := 5) (v := ?_) (takeL rfl) (by kernel_rfl) (by kernel_rfl) (by kernel_rfl) (fun _ _ _ h => h) (Or.inl ⟨by rfl, ?_⟩) (by assumption) ?_
      rotate_left
      · (intro w hSw; (try dsimp only at hSw); first | (go_simp; done) | (go_simp; with_reducible rfl))
      try simp only [Act.put, List.setIfInBounds_toArray, List.set_cons_zero, List.set_cons_succ]
      refine wpAnyH_take (i := 8) (v := ?_) (takeL rfl) (by kernel_rfl) (by kernel_rfl) (by kernel_rfl) (fun _ _ _ h => h) (Or.inl ⟨by rfl, ?_⟩) (by assumption) ?_
      rotate_left
      · (intro w hSw; (try dsimp only at hSw); first | (go_simp; done) | (go_simp; with_reducible rfl))
      try simp only [Act.put, List.setIfInBounds_toArray, List.set_cons_zero, List.set_cons_succ]
      refine wpAnyH_take (i := 9) (v := ?_) (takeL rfl) (by kernel_rfl) (by kernel_rfl) (by kernel_rfl) (fun _ _ _ h => h) (Or.inl ⟨by rfl, ?_⟩) (by assumption) ?_
      rotate_left
      · (intro w hSw; (try dsimp only at hSw); first | (go_simp; done) | (go_simp; with_reducible rfl))
      try simp only [Act.put, List.setIfInBounds_toArray, List.set_cons_zero, List.set_cons_succ]
      refine wpAnyH_ready (rs := [3]) (by kernel_rfl) (by simp) ?_
      refine AllReadyH.cons (takeL rfl) (fun K hK => ?_) AllReadyH.nil
      go_simp
      refine (int_is u s1 h1 _ q1.2).mono ?_; rintro e w4 ⟨rfl, hB4⟩
      go_wp2_with fail
      refine hK.out _ _ (KEEP.out _ hB4) (fun hHeld => ?_)
      clear hK K
      refine wpAnyH_ready (rs := [6]) (by kernel_rfl) (by simp) ?_
      refine AllReadyH.cons (takeL rfl) (fun K hK => ?_) AllReadyH.nil
      go_simp
      refine (int_is v s2 h2 _ q2.2).mono ?_; rintro e w5 ⟨rfl, hB5⟩
      go_wp2_with fail
      refine hK.out _ _ (KEEP.out _ (bNext hB4 hB5)) (fun hHeld => ?_)
      clear hK K
      refine wpAnyH_take (i := 7) (v := ?_) (takeL rfl) (by kernel_rfl) (by kernel_rfl) (by kernel_rfl) (fun _ _ _ h => h) (Or.inl ⟨by rfl, ?_⟩) (by assumption) ?_
      rotate_left
      · (intro w hSw; (try dsimp only at hSw); first | (go_simp; done) | (go_simp; with_reducible rfl))
      try simp only [Act.put, List.setIfInBounds_toArray, List.set_cons_zero, List.set_cons_succ]
      refine wpAnyH_ready (rs := [10]) (by kernel_rfl) (by simp) ?_
      refine AllReadyH.cons (takeL rfl) (fun K hK => ?_) AllReadyH.nil
      go_simp
      refine (int_is z s3 h3 _ q3.2).mono ?_; rintro e w6 ⟨rfl, hB6⟩
      go_wp2_with fail
      refine hK.out _ _ (KEEP.out _ (bNext (bNext hB4 hB5) hB6)) (fun hHeld => ?_)
      clear hK K
      refine wpAnyH_take (i := 11) (v := ?_) (takeL rfl) (by kernel_rfl) (by kernel_rfl) (by kernel_rfl) (fun _ _ _ h => h) (Or.inl ⟨by rfl, ?_⟩) (by assumption) ?_
      rotate_left
      · (intro w hSw; (try dsimp only at hSw); first | (go_simp; done) | (go_simp; with_reducible rfl))
      try simp only [Act.put, List.setIfInBounds_toArray, List.set_cons_zero, List.set_cons_succ]
      refine wpAnyH_take (i := 12) (v := ?_) (takeL rfl) (by kernel_rfl) (by kernel_rfl) (by kernel_rfl) (fun _ _ _ h => h) (Or.inl ⟨by rfl, ?_⟩) (by assumption) ?_
      rotate_left
      · (intro w hSw; (try dsimp only at hSw); first | (go_simp; done) | (go_simp; with_reducible rfl))
      try simp only [Act.put, List.setIfInBounds_toArray, List.set_cons_zero, List.set_cons_succ]
      refine wpAnyH_take (i := 13) (v := ?_) (takeL rfl) (by kernel_rfl) (by kernel_rfl) (by kernel_rfl) (fun _ _ _ h => h) (Or.inl ⟨by rfl, ?_⟩) (by assumption) ?_
      rotate_left
      · (intro w hSw; (try dsimp only at hSw); first | (go_simp; done) | (go_simp; with_reducible rfl))
      try simp only [Act.put, List.setIfInBounds_toArray, List.set_cons_zero, List.set_cons_succ]
      refine wpAnyH_done (by kernel_rfl) ?_ _
      go_wp2_with fail
      go_roundw
      case rel => exact ⟨k + 1, t ++ (s1 ++ s2 ++ s3), by omega, by go_num, rfl, hts, bNext (bDrew HB3.out) (bNext (bNext hB4 hB5) hB6), HT⟩
      case measure => simp [intOf]; omega
    · obtain rfl : k = n := by omega
      have HE : Hid (t = s) := by
        show _ = _
        rw [hT.out, hss.out, h0.out, List.take_of_length_le (by rw [hn.out]; exact Nat.le_refl _), ofL_append, rowL, hn.out]
      go_wp2_with fail
      go_ret
      rw [HE.out]
      exact ⟨rfl, hB⟩
end Go.Proofs.Ytfpjdmplepepjaa

/-! WRefCtx: The document's contexts: the number of a node; may one be; was a name seen; their bytes. -/
namespace Go.Proofs.Ytfpjdmplepepjaa
open Go.RowKit

/-- The number of a node: the first one's. -/
def baseD (bs : List Dot2) (z : Int) : Int := match bs.find? (fun p => decide (p.1 = z)) with | some p => p.2 | none => 0
theorem baseD_none {bs : List Dot2} {z : Int} (h : ∀ p ∈ bs, p.1 ≠ z) : baseD bs z = 0 := by
  unfold baseD
  rw [List.find?_eq_none.2 (fun p hp => by simpa using h p hp)]
theorem baseD_at {bs : List Dot2} {z : Int} {k : Nat} {p : Dot2} (h : ∀ q ∈ bs.take k, q.1 ≠ z) (hp : bs[k]? = some p) (hz : p.1 = z) : baseD bs z = p.2 := by
  unfold baseD
  obtain ⟨h1, h2⟩ := List.getElem?_eq_some_iff.1 hp
  have e : bs = bs.take k ++ p :: bs.drop (k + 1) := by rw [← h2, ← List.drop_eq_getElem_cons h1, List.take_append_drop]
  rw [e, List.find?_append, List.find?_eq_none.2 (fun q hq => by simpa using h q hq)]
  simp [hz]
/-- Where names rise and may be it is what the program finds. -/
theorem base_upto {bs : List Dot2} (ha : Asc bs) (hd : ∀ x ∈ bs, dotP x) (z : Int) : baseD bs z = uptoD bs z := by
  unfold uptoD
  obtain ⟨M, hM⟩ := nm (lowD bs (z, 0))
  rw [← hM.out]
  have hlt : ∀ i, i < M → ∀ p, bs[i]? = some p → ltP p (z, 0) := by
    intro i hi p hp
    obtain ⟨g1, g2⟩ := get_of hp
    by_cases h : ltP p (z, 0)
    · exact h
    · exfalso
      have : i = lowD bs (z, 0) ∨ lowD bs (z, 0) ≤ i := by
        right
        rw [lowD]
        have h2 : ∀ j, i ≤ j → j < bs.length → ¬ ltP bs[j]! (z, 0) := fun j h1 h3 => asc_notlt ha hp h3 h1 h
        have h4 : (bs.filter fun y => decide (ltP y (z, 0))) = (bs.take i).filter fun y => decide (ltP y (z, 0)) := by
          conv => lhs; rw [← List.take_append_drop i bs, List.filter_append]
          have : (bs.drop i).filter (fun y => decide (ltP y (z, 0))) = [] := by
            rw [List.filter_eq_nil_iff]
            intro y hy
            obtain ⟨j, hj, rfl⟩ := List.getElem_of_mem hy
            rw [List.length_drop] at hj
            have h5 := h2 (i + j) (by omega) (by omega)
            rw [getElem!_pos bs (i + j) (by omega)] at h5
            rw [List.getElem_drop]
            simpa using h5
          rw [this, List.append_nil]
        rw [h4]
        exact Nat.le_trans (List.length_filter_le _ _) (by rw [List.length_take]; omega)
      rw [← hM.out] at this
      omega
  have hne : ∀ q ∈ bs.take M, q.1 ≠ z := by
    intro q hq e
    obtain ⟨i, hi, rfl⟩ := List.getElem_of_mem hq
    rw [List.length_take] at hi
    have h1 := hlt i (by omega) bs[i] (List.getElem?_eq_getElem (by omega))
    have h2 := (hd bs[i] (List.getElem_mem _)).le
    rw [List.getElem_take] at e
    unfold ltP at h1
    simp only at h1
    omega
  have hge : ∀ i p, M ≤ i → bs[i]? = some p → ¬ ltP p (z, 0) := by
    intro i p h1 hp h
    obtain ⟨g1, g2⟩ := get_of hp
    have h3 : ∀ j, j ≤ i → ltP bs[j]! (z, 0) := fun j hj => asc_lt ha hp hj h
    have h4 : i + 1 ≤ lowD bs (z, 0) := by
      rw [lowD]
      have h5 : ((bs.take (i + 1)).filter fun y => decide (ltP y (z, 0))) = bs.take (i + 1) := by
        rw [List.filter_eq_self]
        intro y hy
        obtain ⟨j, hj, rfl⟩ := List.getElem_of_mem hy
        rw [List.length_take] at hj
        have := h3 j (by omega)
        rw [getElem!_pos bs j (by omega)] at this
        rw [List.getElem_take]
        simpa using this
      have h6 : (bs.filter fun y => decide (ltP y (z, 0))).length = ((bs.take (i + 1)).filter fun y => decide (ltP y (z, 0))).length + ((bs.drop (i + 1)).filter fun y => decide (ltP y (z, 0))).length := by
        rw [← List.length_append, ← List.filter_append, List.take_append_drop]
      rw [h6, h5, List.length_take]
      omega
    rw [← hM.out] at h4
    omega
  cases hp : bs[M]? with
  | none =>
    refine baseD_none fun p hp2 => ?_
    have h1 : bs.length ≤ M := List.getElem?_eq_none_iff.1 hp
    rw [List.take_of_length_le h1] at hne
    exact hne p hp2
  | some p =>
    simp only
    by_cases hz : p.1 = z
    · rw [if_pos hz]; exact baseD_at hne hp hz
    · rw [if_neg hz]
      refine baseD_none fun q hq e => ?_
      obtain ⟨i, hi, rfl⟩ := List.getElem_of_mem hq
      rcases Nat.lt_or_ge i M with h1 | h1
      · exact hne bs[i] (by rw [List.mem_take_iff_getElem]; exact ⟨i, by omega, rfl⟩) e
      · have h2 := hge M p (Nat.le_refl _) hp
        rcases Nat.lt_or_ge M i with h3 | h3
        · have h4 := asc_mono ha h3 hi
          obtain ⟨g1, g2⟩ := get_of hp
          rw [g2, getElem!_pos bs i hi] at h4
          have h5 := (hd p (List.mem_of_getElem? hp)).le
          unfold ltP at h2 h4
          simp only at h2 h4
          omega
        · obtain rfl : i = M := by omega
          rw [List.getElem?_eq_getElem hi] at hp
          obtain rfl := Option.some.inj hp
          exact hz e

set_option maxRecDepth 100000 in
set_option maxHeartbeats 4000000 in
theorem refbase_any (ab ac : Option Addr) (nb kb nc kc : Nat) (bs : List Dot2) (hn : Hid (bs.length = nb)) (hm : nb ≤ 1000000) (z u : Int) (hu : Hid (u = baseD bs z)) (w : World) (hs : SlP w ab bs) :
    Calls Try.prog 87 #[.agg #[.slice ab nb kb, .slice ac nc kc], .int .i64 z] w fun e w' => e = .returned (.int .i64 u) ∧ Below w.heap.size w w' := by
  obtain ⟨w0, hw0⟩ := nm (w.alloc (.cells #[.slice ab nb kb, .slice ac nc kc] 25))
  obtain ⟨x, hx⟩ := nm w.heap.size
  have Kx : Hid (Blk w0 x #[.slice ab nb kb, .slice ac nc kc] 25) := blkN hw0.out hx.out
  have HB0 : Hid (Below w.heap.size w w0) := by rw [hw0.out]; exact bOld _
  have HS0 : Hid (SlP w0 ab bs) := hs.below HB0.out
  clear hs
  go_enter Try.func87, Try.ntmps87
  go_upto_region 1 with fail
  rw [← hw0.out, ← hx.out]
  have c0 : w0.cell? ⟨x, 0, none⟩ = some (.slice ab nb kb) := Kx.out.cell 0
  go_wp2_with fail
  go_loopw [5] (fun i wr => ∃ k : Nat, k ≤ nb ∧ i = .int .i64 (k : Int) ∧ w0 = wr ∧ Hid (∀ q ∈ bs.take k, q.1 ≠ z)) (fun i _ => nb - (intOf i).toNat)
  case atStart => exact ⟨0, by omega, rfl, rfl, by show ∀ q ∈ bs.take 0, _; simp⟩
  case round =>
    obtain ⟨k, hk, rfl, rfl, hI⟩ := hrel
    by_cases hlt : k < nb
    · obtain ⟨b, off, p, q, rfl, hbl, d0, d1, hp⟩ := HS0.out.get k (by rw [hn.out]; exact hlt)
      by_cases hz : p = z
      · subst hz
        have hpb : (p == p) = true := by simp
        obtain rfl : u = q := by rw [hu.out]; exact baseD_at hI.out hp.out rfl
        go_wp2_with fail
        go_ret
        exact ⟨rfl, HB0.out⟩
      · have hpb : (p == z) = false := by simpa using hz
        have HI : Hid (∀ q ∈ bs.take (k + 1), q.1 ≠ z) := by
          show ∀ q ∈ bs.take (k + 1), _
          rw [take_snocP hp.out]
          intro y hy
          rcases List.mem_append.1 hy with h | h
          · exact hI.out y h
          · obtain rfl := List.mem_singleton.1 h
            exact hz
        clear hz
        go_wp2_with fail
        go_roundw
        case rel => exact ⟨k + 1, by omega, by go_num, (by first | exact rfl | exact trivial), HI⟩
        case measure => simp [intOf]; omega
    · obtain rfl : k = nb := by omega
      obtain rfl : u = 0 := by
        rw [hu.out]
        have := hI.out
        rw [List.take_of_length_le (by rw [hn.out]; exact Nat.le_refl _)] at this
        exact baseD_none this
      go_wp2_with fail
      go_ret
      exact ⟨rfl, HB0.out⟩

set_option maxRecDepth 100000 in
set_option maxHeartbeats 4000000 in
theorem refchas_any (ab ac : Option Addr) (nb kb nc kc : Nat) (bs cl : List Dot2) (hn : Hid (bs.length = nb)) (hm : nb ≤ 1000000) (hn2 : Hid (cl.length = nc)) (hm2 : nc ≤ 1000000) (p q : Int) (ha : Hid (Asc bs)) (hd : Hid (∀ x ∈ bs, dotP x)) (r : Bool) (hr : Hid (r = true ↔ hasD bs cl (p, q))) (w : World) (hs : SlP w ab bs) (hs2 : SlP w ac cl) :
    Calls Try.prog 49 #[.agg #[.slice ab nb kb, .slice ac nc kc], .agg #[.int .i64 p, .int .i64 q]] w fun e w' => e = .returned (.bool r) ∧ Below w.heap.size w w' := by
  obtain ⟨wa, hwa⟩ := nm (w.alloc (.cells #[.slice ab nb kb, .slice ac nc kc] 25))
  obtain ⟨w0, hw0⟩ := nm (wa.alloc (.cells #[.int .i64 p, .int .i64 q] 31))
  obtain ⟨x, hx⟩ := nm w.heap.size
  obtain ⟨y, hy⟩ := nm wa.heap.size
  have Kx : Hid (Blk w0 x #[.slice ab nb kb, .slice ac nc kc] 25) := by show Blk _ _ _ _; rw [hw0.out]; exact (blkN hwa.out hx.out).alloc _
  have Ky : Hid (Blk w0 y #[.int .i64 p, .int .i64 q] 31) := blkN hw0.out hy.out
  have HSZ : Hid (x + 1 = y) := by show _ = _; rw [hy.out, hwa.out, hx.out]; simp
  have HB0 : Hid (Below w.heap.size w w0) := by rw [hw0.out, hwa.out]; exact bNew (bOld _) _
  have HS1 : Hid (SlP w0 ab bs) := hs.below HB0.out
  have HS2 : Hid (SlP w0 ac cl) := hs2.below HB0.out
  clear hs hs2
  obtain ⟨C, hC⟩ := nm (okD p q)
  obtain ⟨D, hD⟩ := nm (decide ((p, q) ∈ cl))
  obtain ⟨u, hu⟩ := nm (baseD bs p)
  have HU : Hid (u = uptoD bs p) := by show _ = _; rw [hu.out]; exact base_upto ha.out hd.out p
  go_enter Try.func49, Try.ntmps49
  go_upto_region 1 with fail
  rw [← hwa.out, ← hw0.out, ← hx.out]
  rw [HSZ.out]
  have e0 : w0.cell? ⟨y, 0, none⟩ = some (.int .i64 p) := Ky.out.cell 0
  have e1 : w0.cell? ⟨y, 1, none⟩ = some (.int .i64 q) := Ky.out.cell 1
  go_wp2_with fail
  refine (refcheck_any p q C hC _).mono ?_; rintro e w1 ⟨rfl, hB1⟩
  replace Kx := Lib.hid (Kx.out.below hB1 Kx.out.lt)
  replace Ky := Lib.hid (Ky.out.below hB1 Ky.out.lt)
  replace HB0 := Lib.hid (bNext HB0.out hB1)
  replace HS1 := Lib.hid (HS1.out.below hB1)
  replace HS2 := Lib.hid (HS2.out.below hB1)
  clear hB1 e0 e1 hw0 hwa
  have c1 : w1.cell? ⟨x, 1, none⟩ = some (.slice ac nc kc) := Kx.out.cell 1
  have e0 : w1.cell? ⟨y, 0, none⟩ = some (.int .i64 p) := Ky.out.cell 0
  have e1 : w1.cell? ⟨y, 1, none⟩ = some (.int .i64 q) := Ky.out.cell 1
  go_wp2_with fail
  refine (refdhas_any ac cl nc kc hn2 (by omega) p q _ HS2.out D hD).mono ?_; rintro e w2 ⟨rfl, hB1⟩
  replace Kx := Lib.hid (Kx.out.below hB1 Kx.out.lt)
  replace Ky := Lib.hid (Ky.out.below hB1 Ky.out.lt)
  replace HB0 := Lib.hid (bNext HB0.out hB1)
  replace HS1 := Lib.hid (HS1.out.below hB1)
  replace HS2 := Lib.hid (HS2.out.below hB1)
  clear hB1 e0 e1 c1
  have c0 : w2.cell? ⟨x, 0, none⟩ = some (.slice ab nb kb) := Kx.out.cell 0
  have c1 : w2.cell? ⟨x, 1, none⟩ = some (.slice ac nc kc) := Kx.out.cell 1
  have e0 : w2.cell? ⟨y, 0, none⟩ = some (.int .i64 p) := Ky.out.cell 0
  have e1 : w2.cell? ⟨y, 1, none⟩ = some (.int .i64 q) := Ky.out.cell 1
  have KEEP : Hid (∀ wb : World, Below w2.drew.heap.size w2.drew wb → wb.cell? ⟨x, 0, none⟩ = some (.slice ab nb kb) ∧ wb.cell? ⟨x, 1, none⟩ = some (.slice ac nc kc) ∧ wb.cell? ⟨y, 0, none⟩ = some (.int .i64 p) ∧ wb.cell? ⟨y, 1, none⟩ = some (.int .i64 q)) := by
    show ∀ wb : World, _
    intro wb h
    have h1 := Blk.below (w := w2.drew) Kx.out h Kx.out.lt
    have h2 := Blk.below (w := w2.drew) Ky.out h Ky.out.lt
    exact ⟨h1.cell 0, h1.cell 1, h2.cell 0, h2.cell 1⟩
  go_wp2_with fail
  cases C
  · obtain rfl : r = false := notB hr.out fun h => by have := h.1; rw [dotP, ← hC.out] at this; cases this
    refine wp_region_held_drew (S := fun w' => w'.cell? ⟨x, 0, none⟩ = some (.slice ab nb kb) ∧ w'.cell? ⟨x, 1, none⟩ = some (.slice ac nc kc) ∧ w'.cell? ⟨y, 0, none⟩ = some (.int .i64 p) ∧ w'.cell? ⟨y, 1, none⟩ = some (.int .i64 q)) (by kernel_rfl) (⟨c0, c1, e0, e1⟩) (fun hHeld => ?_)
    refine wpAnyH_take (i := 0) (v := ?_) (takeL rfl) (by kernel_rfl) (by kernel_rfl) (by kernel_rfl) (fun _ _ _ h => h) (Or.inl ⟨by rfl, ?_⟩) (by assumption) ?_
    rotate_left
    · (intro w hSw; (try dsimp only at hSw); first | (go_simp; done) | (go_simp; with_reducible rfl))
    try simp only [Act.put, List.setIfInBounds_toArray, List.set_cons_zero, List.set_cons_succ]
    refine wpAnyH_take (i := 1) (v := ?_) (takeL rfl) (by kernel_rfl) (by kernel_rfl) (by kernel_rfl) (fun _ _ _ h => h) (Or.inl ⟨by rfl, ?_⟩) (by assumption) ?_
    rotate_left
    · (intro w hSw; (try dsimp only at hSw); first | (go_simp; done) | (go_simp; with_reducible rfl))
    try simp only [Act.put, List.setIfInBounds_toArray, List.set_cons_zero, List.set_cons_succ]
    refine wpAnyH_take (i := 2) (v := undef) (takeL rfl) (by kernel_rfl) (by kernel_rfl) (by kernel_rfl) (fun _ _ _ h => h) (Or.inr ⟨by rfl, rfl⟩) (by assumption) ?_
    try simp only [Act.put, List.setIfInBounds_toArray, List.set_cons_zero, List.set_cons_succ]
    refine wpAnyH_take (i := 3) (v := undef) (takeL rfl) (by kernel_rfl) (by kernel_rfl) (by kernel_rfl) (fun _ _ _ h => h) (Or.inr ⟨by rfl, rfl⟩) (by assumption) ?_
    try simp only [Act.put, List.setIfInBounds_toArray, List.set_cons_zero, List.set_cons_succ]
    refine wpAnyH_take (i := 4) (v := undef) (takeL rfl) (by kernel_rfl) (by kernel_rfl) (by kernel_rfl) (fun _ _ _ h => h) (Or.inr ⟨by rfl, rfl⟩) (by assumption) ?_
    try simp only [Act.put, List.setIfInBounds_toArray, List.set_cons_zero, List.set_cons_succ]
    refine wpAnyH_take (i := 5) (v := undef) (takeL rfl) (by kernel_rfl) (by kernel_rfl) (by kernel_rfl) (fun _ _ _ h => h) (Or.inr ⟨by rfl, rfl⟩) (by assumption) ?_
    try simp only [Act.put, List.setIfInBounds_toArray, List.set_cons_zero, List.set_cons_succ]
    refine wpAnyH_take (i := 6) (v := undef) (takeL rfl) (by kernel_rfl) (by kernel_rfl) (by kernel_rfl) (fun _ _ _ h => h) (Or.inr ⟨by rfl, rfl⟩) (by assumption) ?_
    try simp only [Act.put, List.setIfInBounds_toArray, List.set_cons_zero, List.set_cons_succ]
    refine wpAnyH_take (i := 7) (v := undef) (takeL rfl) (by kernel_rfl) (by kernel_rfl) (by kernel_rfl) (fun _ _ _ h => h) (Or.inr ⟨by rfl, rfl⟩) (by assumption) ?_
    try simp only [Act.put, List.setIfInBounds_toArray, List.set_cons_zero, List.set_cons_succ]
    refine wpAnyH_take (i := 8) (v := undef) (takeL rfl) (by kernel_rfl) (by kernel_rfl) (by kernel_rfl) (fun _ _ _ h => h) (Or.inr ⟨by rfl, rfl⟩) (by assumption) ?_
    try simp only [Act.put, List.setIfInBounds_toArray, List.set_cons_zero, List.set_cons_succ]
    refine wpAnyH_take (i := 9) (v := undef) (takeL rfl) (by kernel_rfl) (by kernel_rfl) (by kernel_rfl) (fun _ _ _ h => h) (Or.inr ⟨by rfl, rfl⟩) (by assumption) ?_
    try simp only [Act.put, List.setIfInBounds_toArray, List.set_cons_zero, List.set_cons_succ]
    refine wpAnyH_take (i := 10) (v := undef) (takeL rfl) (by kernel_rfl) (by kernel_rfl) (by kernel_rfl) (fun _ _ _ h => h) (Or.inr ⟨by rfl, rfl⟩) (by assumption) ?_
    try simp only [Act.put, List.setIfInBounds_toArray, List.set_cons_zero, List.set_cons_succ]
    refine wpAnyH_take (i := 11) (v := undef) (takeL rfl) (by kernel_rfl) (by kernel_rfl) (by kernel_rfl) (fun _ _ _ h => h) (Or.inr ⟨by rfl, rfl⟩) (by assumption) ?_
    try simp only [Act.put, List.setIfInBounds_toArray, List.set_cons_zero, List.set_cons_succ]
    refine wpAnyH_take (i := 12) (v := ?_) (takeL rfl) (by kernel_rfl) (by kernel_rfl) (by kernel_rfl) (fun _ _ _ h => h) (Or.inl ⟨by rfl, ?_⟩) (by assumption) ?_
    rotate_left
    · (intro w hSw; (try dsimp only at hSw); first | (go_simp; done) | (go_simp; with_reducible rfl))
    try simp only [Act.put, List.setIfInBounds_toArray, List.set_cons_zero, List.set_cons_succ]
    refine wpAnyH_take (i := 13) (v := ?_) (takeL rfl) (by kernel_rfl) (by kernel_rfl) (by kernel_rfl) (fun _ _ _ h => h) (Or.inl ⟨by rfl, ?_⟩) (by assumption) ?_
    rotate_left
    · (intro w hSw; (try dsimp only at hSw); first | (go_simp; done) | (go_simp; with_reducible rfl))
    try simp only [Act.put, List.setIfInBounds_toArray, List.set_cons_zero, List.set_cons_succ]
    refine wpAnyH_done (by kernel_rfl) ?_ _
    go_wp2_with fail
    go_ret
    exact ⟨rfl, bDrew HB0.out⟩
  · have HC : Hid (dotP (p, q)) := hC.out.symm
    by_cases hq : q ≤ u
    · have hqd : decide (q ≤ u) = true := decide_eq_true hq
      obtain rfl : r = true := hr.out.2 ⟨HC.out, .inr (by rw [← HU.out]; exact hq)⟩
      refine wp_region_held_drew (S := fun w' => w'.cell? ⟨x, 0, none⟩ = some (.slice ab nb kb) ∧ w'.cell? ⟨x, 1, none⟩ = some (.slice ac nc kc) ∧ w'.cell? ⟨y, 0, none⟩ = some (.int .i64 p) ∧ w'.cell? ⟨y, 1, none⟩ = some (.int .i64 q)) (by kernel_rfl) (⟨c0, c1, e0, e1⟩) (fun hHeld => ?_)
      refine wpAnyH_take (i := 0) (v := ?_) (takeL rfl) (by kernel_rfl) (by kernel_rfl) (by kernel_rfl) (fun _ _ _ h => h) (Or.inl ⟨by rfl, ?_⟩) (by assumption) ?_
      rotate_left
      · (intro w hSw; (try dsimp only at hSw); first | (go_simp; done) | (go_simp; with_reducible rfl))
      try simp only [Act.put, List.setIfInBounds_toArray, List.set_cons_zero, List.set_cons_succ]
      refine wpAnyH_take (i := 1) (v := ?_) (takeL rfl) (by kernel_rfl) (by kernel_rfl) (by kernel_rfl) (fun _ _ _ h => h) (Or.inl ⟨by rfl, ?_⟩) (by assumption) ?_
      rotate_left
      · (intro w hSw; (try dsimp only at hSw); first | (go_simp; done) | (go_simp; with_reducible rfl))
      try simp only [Act.put, List.setIfInBounds_toArray, List.set_cons_zero, List.set_cons_succ]
      refine wpAnyH_take (i := 2) (v := ?_) (takeL rfl) (by kernel_rfl) (by kernel_rfl) (by kernel_rfl) (fun _ _ _ h => h) (Or.inl ⟨by rfl, ?_⟩) (by assumption) ?_
      rotate_left
      · (intro w hSw; (try dsimp only at hSw); first | (go_simp; done) | (go_simp; with_reducible rfl))
      try simp only [Act.put, List.setIfInBounds_toArray, List.set_cons_zero, List.set_cons_succ]
      refine wpAnyH_take (i := 3) (v := ?_) (takeL rfl) (by kernel_rfl) (by kernel_rfl) (by kernel_rfl) (fun _ _ _ h => h) (Or.inl ⟨by rfl, ?_⟩) (by assumption) ?_
      rotate_left
      · (intro w hSw; (try dsimp only at hSw); first | (go_simp; done) | (go_simp; with_reducible rfl))
      try simp only [Act.put, List.setIfInBounds_toArray, List.set_cons_zero, List.set_cons_succ]
      refine wpAnyH_take (i := 4) (v := ?_) (takeL rfl) (by kernel_rfl) (by kernel_rfl) (by kernel_rfl) (fun _ _ _ h => h) (Or.inl ⟨by rfl, ?_⟩) (by assumption) ?_
      rotate_left
      · (intro w hSw; (try dsimp only at hSw); first | (go_simp; done) | (go_simp; with_reducible rfl))
      try simp only [Act.put, List.setIfInBounds_toArray, List.set_cons_zero, List.set_cons_succ]
      refine wpAnyH_take (i := 5) (v := ?_) (takeL rfl) (by kernel_rfl) (by kernel_rfl) (by kernel_rfl) (fun _ _ _ h => h) (Or.inl ⟨by rfl, ?_⟩) (by assumption) ?_
      rotate_left
      · (intro w hSw; (try dsimp only at hSw); first | (go_simp; done) | (go_simp; with_reducible rfl))
      try simp only [Act.put, List.setIfInBounds_toArray, List.set_cons_zero, List.set_cons_succ]
      refine wpAnyH_take (i := 6) (v := ?_) (takeL rfl) (by kernel_rfl) (by kernel_rfl) (by kernel_rfl) (fun _ _ _ h => h) (Or.inl ⟨by rfl, ?_⟩) (by assumption) ?_
      rotate_left
      · (intro w hSw; (try dsimp only at hSw); first | (go_simp; done) | (go_simp; with_reducible rfl))
      try simp only [Act.put, List.setIfInBounds_toArray, List.set_cons_zero, List.set_cons_succ]
      refine wpAnyH_ready (rs := [7]) (by kernel_rfl) (by simp) ?_
      refine AllReadyH.cons (takeL rfl) (fun K hK => ?_) AllReadyH.nil
      go_simp
      refine (refbase_any ab ac nb kb nc kc bs hn hm p u hu _ (HS1.out.below (bDrew (Below.refl _ _)))).mono ?_; rintro e w5 ⟨rfl, hB5⟩
      go_wp2_with fail
      refine hK.out _ _ (KEEP.out _ hB5) (fun hHeld => ?_)
      clear hK K
      refine wpAnyH_take (i := 8) (v := ?_) (takeL rfl) (by kernel_rfl) (by kernel_rfl) (by kernel_rfl) (fun _ _ _ h => h) (Or.inl ⟨by rfl, ?_⟩) (by assumption) ?_
      rotate_left
      · (intro w hSw; (try dsimp only at hSw); first | (go_simp; done) | (go_simp; with_reducible rfl))
      try simp only [Act.put, List.setIfInBounds_toArray, List.set_cons_zero, List.set_cons_succ]
      refine wpAnyH_take (i := 9) (v := ?_) (takeL rfl) (by kernel_rfl) (by kernel_rfl) (by kernel_rfl) (fun _ _ _ h => h) (Or.inl ⟨by rfl, ?_⟩) (by assumption) ?_
      rotate_left
      · (intro w hSw; (try dsimp only at hSw); first | (go_simp; done) | (go_simp; with_reducible rfl))
      try simp only [Act.put, List.setIfInBounds_toArray, List.set_cons_zero, List.set_cons_succ]
      refine wpAnyH_take (i := 10) (v := undef) (takeL rfl) (by kernel_rfl) (by kernel_rfl) (by kernel_rfl) (fun _ _ _ h => h) (Or.inr ⟨by rfl, rfl⟩) (by assumption) ?_
      try simp only [Act.put, List.setIfInBounds_toArray, List.set_cons_zero, List.set_cons_succ]
      refine wpAnyH_take (i := 11) (v := ?_) (takeL rfl) (by kernel_rfl) (by kernel_rfl) (by kernel_rfl) (fun _ _ _ h => h) (Or.inl ⟨by rfl, ?_⟩) (by assumption) ?_
      rotate_left
      · (intro w hSw; (try dsimp only at hSw); first | (go_simp; done) | (go_simp; with_reducible rfl))
      try simp only [Act.put, List.setIfInBounds_toArray, List.set_cons_zero, List.set_cons_succ]
      refine wpAnyH_take (i := 12) (v := ?_) (takeL rfl) (by kernel_rfl) (by kernel_rfl) (by kernel_rfl) (fun _ _ _ h => h) (Or.inl ⟨by rfl, ?_⟩) (by assumption) ?_
      rotate_left
      · (intro w hSw; (try dsimp only at hSw); first | (go_simp; done) | (go_simp; with_reducible rfl))
      try simp only [Act.put, List.setIfInBounds_toArray, List.set_cons_zero, List.set_cons_succ]
      refine wpAnyH_take (i := 13) (v := ?_) (takeL rfl) (by kernel_rfl) (by kernel_rfl) (by kernel_rfl) (fun _ _ _ h => h) (Or.inl ⟨by rfl, ?_⟩) (by assumption) ?_
      rotate_left
      · (intro w hSw; (try dsimp only at hSw); first | (go_simp; done) | (go_simp; with_reducible rfl))
      try simp only [Act.put, List.setIfInBounds_toArray, List.set_cons_zero, List.set_cons_succ]
      refine wpAnyH_done (by kernel_rfl) ?_ _
      go_wp2_with fail
      go_ret
      exact ⟨rfl, bNext (bDrew HB0.out) hB5⟩
    · have hqd : decide (q ≤ u) = false := decide_eq_false hq
      obtain rfl : r = D := by
        cases D
        · refine notB hr.out fun h => ?_
          rcases h.2 with h | h
          · have := hD.out; rw [decide_eq_true h] at this; cases this
          · rw [← HU.out] at h; exact hq h
        · refine hr.out.2 ⟨HC.out, .inl ?_⟩
          simpa using hD.out.symm
      refine wp_region_held_drew (S := fun w' => w'.cell? ⟨x, 0, none⟩ = some (.slice ab nb kb) ∧ w'.cell? ⟨x, 1, none⟩ = some (.slice ac nc kc) ∧ w'.cell? ⟨y, 0, none⟩ = some (.int .i64 p) ∧ w'.cell? ⟨y, 1, none⟩ = some (.int .i64 q)) (by kernel_rfl) (⟨c0, c1, e0, e1⟩) (fun hHeld => ?_)
      refine wpAnyH_take (i := 0) (v := ?_) (takeL rfl) (by kernel_rfl) (by kernel_rfl) (by kernel_rfl) (fun _ _ _ h => h) (Or.inl ⟨by rfl, ?_⟩) (by assumption) ?_
      rotate_left
      · (intro w hSw; (try dsimp only at hSw); first | (go_simp; done) | (go_simp; with_reducible rfl))
      try simp only [Act.put, List.setIfInBounds_toArray, List.set_cons_zero, List.set_cons_succ]
      refine wpAnyH_take (i := 1) (v := ?_) (takeL rfl) (by kernel_rfl) (by kernel_rfl) (by kernel_rfl) (fun _ _ _ h => h) (Or.inl ⟨by rfl, ?_⟩) (by assumption) ?_
      rotate_left
      · (intro w hSw; (try dsimp only at hSw); first | (go_simp; done) | (go_simp; with_reducible rfl))
      try simp only [Act.put, List.setIfInBounds_toArray, List.set_cons_zero, List.set_cons_succ]
      refine wpAnyH_take (i := 2) (v := ?_) (takeL rfl) (by kernel_rfl) (by kernel_rfl) (by kernel_rfl) (fun _ _ _ h => h) (Or.inl ⟨by rfl, ?_⟩) (by assumption) ?_
      rotate_left
      · (intro w hSw; (try dsimp only at hSw); first | (go_simp; done) | (go_simp; with_reducible rfl))
      try simp only [Act.put, List.setIfInBounds_toArray, List.set_cons_zero, List.set_cons_succ]
      refine wpAnyH_take (i := 3) (v := ?_) (takeL rfl) (by kernel_rfl) (by kernel_rfl) (by kernel_rfl) (fun _ _ _ h => h) (Or.inl ⟨by rfl, ?_⟩) (by assumption) ?_
      rotate_left
      · (intro w hSw; (try dsimp only at hSw); first | (go_simp; done) | (go_simp; with_reducible rfl))
      try simp only [Act.put, List.setIfInBounds_toArray, List.set_cons_zero, List.set_cons_succ]
      refine wpAnyH_take (i := 4) (v := ?_) (takeL rfl) (by kernel_rfl) (by kernel_rfl) (by kernel_rfl) (fun _ _ _ h => h) (Or.inl ⟨by rfl, ?_⟩) (by assumption) ?_
      rotate_left
      · (intro w hSw; (try dsimp only at hSw); first | (go_simp; done) | (go_simp; with_reducible rfl))
      try simp only [Act.put, List.setIfInBounds_toArray, List.set_cons_zero, List.set_cons_succ]
      refine wpAnyH_take (i := 5) (v := ?_) (takeL rfl) (by kernel_rfl) (by kernel_rfl) (by kernel_rfl) (fun _ _ _ h => h) (Or.inl ⟨by rfl, ?_⟩) (by assumption) ?_
      rotate_left
      · (intro w hSw; (try dsimp only at hSw); first | (go_simp; done) | (go_simp; with_reducible rfl))
      try simp only [Act.put, List.setIfInBounds_toArray, List.set_cons_zero, List.set_cons_succ]
      refine wpAnyH_take (i := 6) (v := ?_) (takeL rfl) (by kernel_rfl) (by kernel_rfl) (by kernel_rfl) (fun _ _ _ h => h) (Or.inl ⟨by rfl, ?_⟩) (by assumption) ?_
      rotate_left
      · (intro w hSw; (try dsimp only at hSw); first | (go_simp; done) | (go_simp; with_reducible rfl))
      try simp only [Act.put, List.setIfInBounds_toArray, List.set_cons_zero, List.set_cons_succ]
      refine wpAnyH_ready (rs := [7]) (by kernel_rfl) (by simp) ?_
      refine AllReadyH.cons (takeL rfl) (fun K hK => ?_) AllReadyH.nil
      go_simp
      refine (refbase_any ab ac nb kb nc kc bs hn hm p u hu _ (HS1.out.below (bDrew (Below.refl _ _)))).mono ?_; rintro e w5 ⟨rfl, hB5⟩
      go_wp2_with fail
      refine hK.out _ _ (KEEP.out _ hB5) (fun hHeld => ?_)
      clear hK K
      refine wpAnyH_take (i := 8) (v := ?_) (takeL rfl) (by kernel_rfl) (by kernel_rfl) (by kernel_rfl) (fun _ _ _ h => h) (Or.inl ⟨by rfl, ?_⟩) (by assumption) ?_
      rotate_left
      · (intro w hSw; (try dsimp only at hSw); first | (go_simp; done) | (go_simp; with_reducible rfl))
      try simp only [Act.put, List.setIfInBounds_toArray, List.set_cons_zero, List.set_cons_succ]
      refine wpAnyH_take (i := 9) (v := ?_) (takeL rfl) (by kernel_rfl) (by kernel_rfl) (by kernel_rfl) (fun _ _ _ h => h) (Or.inl ⟨by rfl, ?_⟩) (by assumption) ?_
      rotate_left
      · (intro w hSw; (try dsimp only at hSw); first | (go_simp; done) | (go_simp; with_reducible rfl))
      try simp only [Act.put, List.setIfInBounds_toArray, List.set_cons_zero, List.set_cons_succ]
      refine wpAnyH_take (i := 10) (v := ?_) (takeL rfl) (by kernel_rfl) (by kernel_rfl) (by kernel_rfl) (fun _ _ _ h => h) (Or.inl ⟨by rfl, ?_⟩) (by assumption) ?_
      rotate_left
      · (intro w hSw; (try dsimp only at hSw); first | (go_simp; done) | (go_simp; with_reducible rfl))
      try simp only [Act.put, List.setIfInBounds_toArray, List.set_cons_zero, List.set_cons_succ]
      refine wpAnyH_take (i := 11) (v := ?_) (takeL rfl) (by kernel_rfl) (by kernel_rfl) (by kernel_rfl) (fun _ _ _ h => h) (Or.inl ⟨by rfl, ?_⟩) (by assumption) ?_
      rotate_left
      · (intro w hSw; (try dsimp only at hSw); first | (go_simp; done) | (go_simp; with_reducible rfl))
      try simp only [Act.put, List.setIfInBounds_toArray, List.set_cons_zero, List.set_cons_succ]
      refine wpAnyH_take (i := 12) (v := ?_) (takeL rfl) (by kernel_rfl) (by kernel_rfl) (by kernel_rfl) (fun _ _ _ h => h) (Or.inl ⟨by rfl, ?_⟩) (by assumption) ?_
      rotate_left
      · (intro w hSw; (try dsimp only at hSw); first | (go_simp; done) | (go_simp; with_reducible rfl))
      try simp only [Act.put, List.setIfInBounds_toArray, List.set_cons_zero, List.set_cons_succ]
      refine wpAnyH_take (i := 13) (v := ?_) (takeL rfl) (by kernel_rfl) (by kernel_rfl) (by kernel_rfl) (fun _ _ _ h => h) (Or.inl ⟨by rfl, ?_⟩) (by assumption) ?_
      rotate_left
      · (intro w hSw; (try dsimp only at hSw); first | (go_simp; done) | (go_simp; with_reducible rfl))
      try simp only [Act.put, List.setIfInBounds_toArray, List.set_cons_zero, List.set_cons_succ]
      refine wpAnyH_done (by kernel_rfl) ?_ _
      go_wp2_with fail
      go_ret
      exact ⟨rfl, bNext (bDrew HB0.out) hB5⟩
end Go.Proofs.Ytfpjdmplepepjaa

/-! Reader: The walks of layer mint's reader. -/
namespace Go.Proofs.Ytfpjdmplepepjaa
open Go.RowKit

/-- A reader: what is left; is it torn. -/
structure Rd where
  left : ByteArray
  torn : Bool
def Rd.cells (r : Rd) : Array Value := #[.string r.left, .bool r.torn]
/-- Block b holds the program's reader r. -/
def IsRd (w : World) (b : Nat) (r : Rd) : Prop := Blk w b r.cells 108
theorem IsRd.setLeft {w : World} {b : Nat} {r : Rd} (h : IsRd w b r) (x : ByteArray) : IsRd (w.setCell ⟨b, 0, none⟩ (.string x)) b { r with left := x } := Blk.set h 0 (.string x)
theorem IsRd.setTorn {w : World} {b : Nat} {r : Rd} (h : IsRd w b r) (x : Bool) : IsRd (w.setCell ⟨b, 1, none⟩ (.bool x)) b { r with torn := x } := Blk.set h 1 (.bool x)

/-- A number is read. -/
def Rd.num (r : Rd) : Rd × Nat :=
  if r.torn then (r, 0) else match Pl.rdNum (bl r.left) with
    | some (n, l) => (⟨ofL l, false⟩, n)
    | none => (⟨r.left, true⟩, 0)
def Rd.int (r : Rd) (most : Int) : Rd × Nat := if most < 0 ∨ most < r.num.2 then (⟨r.num.1.left, true⟩, 0) else r.num
def Rd.text (r : Rd) (most : Int) : Rd × ByteArray :=
  if (r.int most).1.torn = true ∨ (r.int most).1.left.size < (r.int most).2 then (⟨(r.int most).1.left, true⟩, ⟨#[]⟩)
  else (⟨(r.int most).1.left.extract (r.int most).2 (r.int most).1.left.size, false⟩, (r.int most).1.left.extract 0 (r.int most).2)

set_option maxRecDepth 100000 in
set_option maxHeartbeats 400000 in
theorem read_any (s : ByteArray) (w : World) :
    Calls Try.prog 36 #[.string s] w fun e w' => e = .returned (.pointer (some ⟨w.heap.size, 0, none⟩)) ∧ w' = w.alloc (.cells (Rd.cells ⟨s, false⟩) 108) := by
  go_enter Try.func36, Try.ntmps36
  go_wp2
  go_ret
  exact ⟨rfl, rfl⟩

set_option maxRecDepth 100000 in
set_option maxHeartbeats 400000 in
theorem fine_any (b : Nat) (r : Rd) (w : World) (hr : IsRd w b r) :
    Calls Try.prog 78 #[.pointer (some ⟨b, 0, none⟩)] w fun e w' => e = .returned (.bool (!r.torn)) ∧ w = w' := by
  have c1 : w.cell? ⟨b, 1, none⟩ = some (.bool r.torn) := hr.cell 1
  go_enter Try.func78, Try.ntmps78
  go_wp2
  go_ret
  exact ⟨rfl, rfl⟩

theorem fine_is (t f : Bool) (hf : f = !t) (b : Nat) (s : ByteArray) (w : World) (hr : IsRd w b ⟨s, t⟩) :
    Calls Try.prog 78 #[.pointer (some ⟨b, 0, none⟩)] w fun e w' => e = .returned (.bool f) ∧ w = w' := by subst hf; exact fine_any b _ w hr

set_option maxRecDepth 100000 in
set_option maxHeartbeats 400000 in
theorem tears_any (b : Nat) (r : Rd) (w : World) (hr : IsRd w b r) :
    Calls Try.prog 79 #[.pointer (some ⟨b, 0, none⟩)] w fun e w' => e = .returned (.tuple #[]) ∧ IsRd w' b ⟨r.left, true⟩ ∧ Kept b w w' := by
  have c1 : w.cell? ⟨b, 1, none⟩ = some (.bool r.torn) := hr.cell 1
  have f1 : w.frozen? ⟨b, 1, none⟩ = false := hr.free 1
  go_enter Try.func79, Try.ntmps79
  go_wp2
  go_end0
  exact ⟨rfl, hr.setTorn true, (Kept.refl _ _).set _ _⟩

theorem mul64_small (x : Nat) (w : World) (hx : x < 144115188075855872) :
    Calls Try.prog 114 #[.int .u64 x, .int .u64 128] w fun e w' => e = .returned (.tuple #[.int .u64 0, .int .u64 ((x * 128 : Nat) : Int)]) ∧ w = w' := by
  refine (mul64_any x 128 w (by omega) (by decide)).mono ?_
  rintro e w' ⟨rfl, rfl⟩
  refine ⟨?_, rfl⟩
  rw [show x * 128 / 18446744073709551616 = 0 from by omega, show x * 128 % 18446744073709551616 = x * 128 from by omega]
  rfl
theorem mul64_big (x : Nat) (w : World) (hx : 144115188075855872 ≤ x) (hx2 : x < 18446744073709551616) :
    Calls Try.prog 114 #[.int .u64 x, .int .u64 128] w fun e w' => ∃ h l : Nat, e = .returned (.tuple #[.int .u64 (h : Int), .int .u64 (l : Int)]) ∧ 0 < h ∧ h < 18446744073709551616 ∧ l < 18446744073709551616 ∧ w = w' := by
  refine (mul64_any x 128 w (by omega) (by decide)).mono ?_
  rintro e w' ⟨rfl, rfl⟩
  exact ⟨_, _, rfl, by omega, by omega, by omega, rfl⟩

theorem or_digit (x c : Nat) (hx : x < 144115188075855872) (hc : c < 128) : bits BinOp.or IntKind.u64 ((x * 128 : Nat) : Int) (c : Int) = ((x * 128 + c : Nat) : Int) := by
  have h1 : (BitVec.ofInt 64 ((x * 128 : Nat) : Int)).toNat = x * 128 := by
    rw [BitVec.ofInt_natCast, BitVec.toNat_ofNat]; exact Nat.mod_eq_of_lt (by omega)
  have h2 : (BitVec.ofInt 64 (c : Int)).toNat = c := by
    rw [BitVec.ofInt_natCast, BitVec.toNat_ofNat]; exact Nat.mod_eq_of_lt (by omega)
  have h3 : x * 128 ||| c = x * 128 + c := by
    have := Nat.two_pow_add_eq_or_of_lt (i := 7) (b := c) (by omega) x
    rw [show 2 ^ 7 * x = x * 128 from by omega] at this
    exact this.symm
  show IntKind.u64.wrap ((BitVec.ofInt 64 ((x * 128 : Nat) : Int) ||| BitVec.ofInt 64 (c : Int)).toNat : Int) = _
  rw [BitVec.toNat_or, h1, h2, h3]
  rw [IntKind.wrap_u64]
  omega

theorem and_digit : ∀ x : Fin 256, bits BinOp.and IntKind.u8 (x.val : Int) 127 = (x.val % 128 : Nat) := by decide +kernel

theorem rdNum_step (s : ByteArray) (k m : Nat) (hk : k < 10) (h : k < s.size) :
    Pl.rdG (10 - k) (k == 0) m ((bl s).drop k) = if 144115188075855872 ≤ m ∨ (k = 0 ∧ s[k].toNat = 128) then none else
      if s[k].toNat < 128 then some (m * 128 + s[k].toNat % 128, (bl s).drop (k + 1)) else Pl.rdG (10 - (k + 1)) (k + 1 == 0) (m * 128 + s[k].toNat % 128) ((bl s).drop (k + 1)) := by
  have e : (bl s).drop k = s[k] :: (bl s).drop (k + 1) := by
    rw [List.drop_eq_getElem_cons (by rw [bl_length]; exact h)]; rfl
  rw [e, show 10 - k = (9 - k) + 1 from by omega, Pl.rdG, show 10 - (k + 1) = 9 - k from by omega]
  have h1 : (s[k] = 128) = (s[k].toNat = 128) := by
    apply propext
    constructor
    · intro h; rw [h]; rfl
    · intro h; exact UInt8.toNat_inj.1 (h.trans rfl)
  have h2 : (s[k] < 128) = (s[k].toNat < 128) := by
    rw [UInt8.lt_iff_toNat_lt]; rfl
  simp only [h1, h2, beq_iff_eq]
  rfl
theorem rdNum_end (s : ByteArray) (k m : Nat) (h : ¬ (k < 10 ∧ k < s.size)) : Pl.rdG (10 - k) (k == 0) m ((bl s).drop k) = none := by
  by_cases hk : k < 10
  · rw [List.drop_of_length_le (by rw [bl_length]; omega), show 10 - k = (9 - k) + 1 from by omega]; rfl
  · rw [show 10 - k = 0 from by omega]; rfl

set_option maxRecDepth 100000 in
set_option maxHeartbeats 1000000 in
theorem rnum_any (b : Nat) (r : Rd) (w : World) (hr : IsRd w b r) (hs : r.left.size ≤ 4611686018427387904) :
    Calls Try.prog 104 #[.pointer (some ⟨b, 0, none⟩)] w fun e w' => e = .returned (.int .u64 (r.num.2 : Nat)) ∧ IsRd w' b r.num.1 ∧ Kept b w w' := by
  obtain ⟨s, torn⟩ := r
  simp only at hs
  cases torn
  rotate_left
  · have e0 : (Rd.mk s true).num = (⟨s, true⟩, 0) := rfl
    rw [e0]; clear e0
    go_enter Try.func104, Try.ntmps104
    go_wp2_with fail
    go_step3
    go_wp2_with (go_at_call 78; refine (fine_is true false rfl b s w hr).mono ?_; rintro e w1 ⟨rfl, rfl⟩)
    (first | go_ret | (rw [Exit.noGoto_ret]; go_ret))
    exact ⟨rfl, hr, Kept.refl _ _⟩
  have c0 : w.cell? ⟨b, 0, none⟩ = some (.string s) := hr.cell 0
  have f0 : w.frozen? ⟨b, 0, none⟩ = false := hr.free 0
  have key : ∀ q, Pl.rdNum (bl s) = q → (Rd.mk s false).num = match q with | some (n, l) => (⟨ofL l, false⟩, n) | none => (⟨s, true⟩, 0) := by rintro q rfl; rfl
  obtain ⟨Q, hQ⟩ := nm ((Rd.mk s false).num)
  rw [← hQ.out]
  have KEY := Lib.hid key
  clear key
  go_enter Try.func104, Try.ntmps104
  go_wp2_with fail
  go_step3
  go_wp2_with (go_at_call 78; refine (fine_is false true rfl b s w hr).mono ?_; rintro e w1 ⟨rfl, rfl⟩)
  go_step3
  go_wp2_with fail
  go_loop [3, 17] (fun v i => ∃ k m : Nat, k ≤ 10 ∧ k ≤ s.size ∧ i = .int .i64 (k : Int) ∧ v = .int .u64 (m : Int) ∧ m < 18446744073709551616 ∧ Hid (Pl.rdNum (bl s) = Pl.rdG (10 - k) (k == 0) m ((bl s).drop k))) (fun _ i => 10 - (intOf i).toNat)
  case atStart => exact ⟨0, 0, by omega, by omega, rfl, rfl, by omega, rfl⟩
  case round =>
    obtain ⟨k, m, hk1, hk2, rfl, rfl, hm, hrel⟩ := hrel
    by_cases hlt : k < 10 ∧ k < s.size
    rotate_left
    · have HE := Lib.hid (KEY.out _ (hrel.out.trans (rdNum_end s k m hlt)))
      go_wp2_with fail
      all_goals
        refine (tears_any b _ _ hr).mono ?_; rintro e w2 ⟨rfl, h1, h2⟩
        go_wp2_with fail
        (first | go_ret | (rw [Exit.noGoto_ret]; go_ret))
        rw [hQ.out, HE.out]
        exact ⟨rfl, h1, h2⟩
    obtain ⟨hlt1, hlt2⟩ := hlt
    have hst := rdNum_step s k m hlt1 hlt2
    have h256 := s[k].toNat_lt
    by_cases hbad : 144115188075855872 ≤ m ∨ (k = 0 ∧ s[k].toNat = 128)
    · rw [if_pos hbad] at hst
      have HE := Lib.hid (KEY.out _ (hrel.out.trans hst))
      clear hst
      by_cases hm57 : m < 144115188075855872
      · obtain ⟨hk0, hc⟩ : k = 0 ∧ s[k].toNat = 128 := by omega
        subst hk0
        have hcb : ((s[0].toNat : Int) == 128) = true := by simp [hc]
        go_wp2_with fail
        refine (mul64_small m _ hm57).mono ?_; rintro e w2 ⟨rfl, rfl⟩
        go_wp2_with fail
        refine (tears_any b _ _ hr).mono ?_; rintro e w2 ⟨rfl, h1, h2⟩
        go_wp2_with fail
        (first | go_ret | (rw [Exit.noGoto_ret]; go_ret))
        rw [hQ.out, HE.out]
        exact ⟨rfl, h1, h2⟩
      · go_wp2_with fail
        refine (mul64_big m _ (by omega) hm).mono ?_; rintro e w2 ⟨h, l, rfl, hh1, hh2, hl2, rfl⟩
        go_wp2_with fail
        refine (tears_any b _ _ hr).mono ?_; rintro e w2 ⟨rfl, h1, h2⟩
        go_wp2_with fail
        (first | go_ret | (rw [Exit.noGoto_ret]; go_ret))
        rw [hQ.out, HE.out]
        exact ⟨rfl, h1, h2⟩
    · rw [if_neg hbad] at hst
      have hm57 : m < 144115188075855872 := by omega
      obtain ⟨d, hd⟩ := nm (s[k].toNat % 128)
      have hd7 : d < 128 := by rw [hd.out]; omega
      have ho := or_digit m d hm57 hd7
      have HO : Hid (bits BinOp.or IntKind.u64 ((m : Int) * 128) (IntKind.u64.wrap (bits BinOp.and IntKind.u8 (s[k].toNat : Int) 127)) = ((m * 128 + d : Nat) : Int)) := by
        show _ = _
        rw [and_digit ⟨s[k].toNat, h256⟩, ← ho, hd.out, IntKind.wrap_u64]
        congr 1
        simp only
        omega
      clear ho
      rw [← hd.out] at hst
      by_cases hc : s[k].toNat < 128
      · rw [if_pos hc] at hst
        have HE := Lib.hid (KEY.out _ (hrel.out.trans hst))
        clear hst
        have HX : Hid (s.extract (k + 1) s.size = ofL ((bl s).drop (k + 1))) := by
          show _ = _
          refine bl_inj ?_
          rw [bl_extract, bl_ofL, List.take_of_length_le (by rw [List.length_drop, bl_length]; exact Nat.le_refl _)]
        have hcb : ((s[k].toNat : Int) == 128) = false := by simp; omega
        clear hbad
        by_cases hk0 : k = 0
        · subst hk0
          go_wp2_with fail
          refine (mul64_small m _ hm57).mono ?_; rintro e w2 ⟨rfl, rfl⟩
          go_wp2_with fail
          first | go_ret | (rw [Exit.noGoto_ret]; go_ret)
          rw [hQ.out, HE.out]
          simp only
          rw [← HX.out]
          exact ⟨congrArg (fun x => Ending.returned (Value.int .u64 x)) HO.out, hr.setLeft _, (Kept.refl _ _).set _ _⟩
        · go_wp2_with fail
          refine (mul64_small m _ hm57).mono ?_; rintro e w2 ⟨rfl, rfl⟩
          go_wp2_with fail
          first | go_ret | (rw [Exit.noGoto_ret]; go_ret)
          rw [hQ.out, HE.out]
          simp only
          rw [← HX.out]
          exact ⟨congrArg (fun x => Ending.returned (Value.int .u64 x)) HO.out, hr.setLeft _, (Kept.refl _ _).set _ _⟩
      · rw [if_neg hc] at hst
        have HE := Lib.hid (hrel.out.trans hst)
        clear hst
        by_cases hk0 : k = 0
        · subst hk0
          have hcb : ((s[0].toNat : Int) == 128) = false := by simp; omega
          clear hbad
          go_wp2_with fail
          refine (mul64_small m _ hm57).mono ?_; rintro e w2 ⟨rfl, rfl⟩
          go_wp2_with fail
          go_round
          case rel => exact ⟨0 + 1, m * 128 + d, by omega, by omega, by go_num, congrArg _ HO.out, by omega, HE⟩
          case measure => simp [intOf]
        · clear hbad
          go_wp2_with fail
          refine (mul64_small m _ hm57).mono ?_; rintro e w2 ⟨rfl, rfl⟩
          go_wp2_with fail
          go_round
          case rel => exact ⟨k + 1, m * 128 + d, by omega, by omega, by go_num, congrArg _ HO.out, by omega, HE⟩
          case measure => simp [intOf]; omega
end Go.Proofs.Ytfpjdmplepepjaa

/-! ReaderB: The reader's walks, continued: Int, Left. -/
namespace Go.Proofs.Ytfpjdmplepepjaa
open Go.RowKit

theorem Pl.rdG_lt : ∀ (f : Nat) (first : Bool) (m : Nat) (l : List UInt8) (n : Nat) (r : List UInt8), Pl.rdG f first m l = some (n, r) → n < 18446744073709551616 ∧ r.length < l.length
  | 0, _, _, _, _, _, h => by cases h
  | f + 1, _, _, [], _, _, h => by cases h
  | f + 1, first, m, c :: l, n, r, h => by
    rw [Pl.rdG] at h
    split at h
    · cases h
    · rename_i hn
      split at h
      · cases h
        exact ⟨by have := c.toNat_lt; omega, by simp⟩
      · obtain ⟨h1, h2⟩ := Pl.rdG_lt f _ _ _ _ _ h
        exact ⟨h1, by simp; omega⟩

theorem Rd.num_lt (r : Rd) : r.num.2 < 18446744073709551616 ∧ r.num.1.left.size ≤ r.left.size := by
  unfold Rd.num
  split
  · exact ⟨Nat.zero_lt_succ _, Nat.le_refl _⟩
  · split
    · rename_i n l h
      obtain ⟨h1, h2⟩ := Pl.rdG_lt _ _ _ _ _ _ h
      rw [bl_length] at h2
      exact ⟨h1, by simp only [ofL_size]; omega⟩
    · exact ⟨Nat.zero_lt_succ _, Nat.le_refl _⟩

set_option maxRecDepth 100000 in
set_option maxHeartbeats 1000000 in
theorem rint_any (b : Nat) (r : Rd) (most : Int) (w : World) (hr : IsRd w b r) (hs : r.left.size ≤ 4611686018427387904) (hm : most ≤ 9223372036854775807) :
    Calls Try.prog 77 #[.pointer (some ⟨b, 0, none⟩), .int .i64 most] w fun e w' => e = .returned (.int .i64 ((r.int most).2 : Nat)) ∧ IsRd w' b (r.int most).1 ∧ Kept b w w' := by
  have hlt := r.num_lt.1
  obtain ⟨Q, hQ⟩ := nm (r.int most)
  rw [← hQ.out]
  obtain ⟨n, hn⟩ := nm r.num.2
  have hlt : n < 18446744073709551616 := by rw [hn.out]; exact hlt
  by_cases h0 : most < 0
  · have e0 : Q = (⟨r.num.1.left, true⟩, 0) := by rw [hQ.out, Rd.int, if_pos (Or.inl h0)]
    rw [e0]; clear e0
    go_enter Try.func77, Try.ntmps77
    go_wp2_with fail
    refine (rnum_any b r w hr hs).mono ?_; rintro e w1 ⟨rfl, h1, h2⟩
    rw [← hn.out]
    go_wp2_with fail
    refine (tears_any b _ _ h1).mono ?_; rintro e w2 ⟨rfl, h3, h4⟩
    go_wp2_with fail
    go_ret
    exact ⟨rfl, h3, h2.trans h4⟩
  · obtain ⟨M, rfl⟩ : ∃ M : Nat, most = M := ⟨most.toNat, by omega⟩
    by_cases h1 : M < n
    · have e0 : Q = (⟨r.num.1.left, true⟩, 0) := by rw [hQ.out, Rd.int, if_pos (Or.inr (by rw [← hn.out]; omega))]
      rw [e0]; clear e0
      go_enter Try.func77, Try.ntmps77
      go_wp2_with fail
      refine (rnum_any b r w hr hs).mono ?_; rintro e w1 ⟨rfl, h1, h2⟩
      rw [← hn.out]
      go_wp2_with fail
      refine (tears_any b _ _ h1).mono ?_; rintro e w2 ⟨rfl, h3, h4⟩
      go_wp2_with fail
      go_ret
      exact ⟨rfl, h3, h2.trans h4⟩
    · have e0 : Q = (r.num.1, n) := by rw [hQ.out, Rd.int, if_neg (by rw [← hn.out]; omega), hn.out]
      rw [e0]; clear e0
      go_enter Try.func77, Try.ntmps77
      go_wp2_with fail
      refine (rnum_any b r w hr hs).mono ?_; rintro e w1 ⟨rfl, h1, h2⟩
      rw [← hn.out]
      go_wp2_with fail
      go_ret
      exact ⟨rfl, h1, h2⟩

theorem Rd.int_lt (r : Rd) (most : Int) : (r.int most).2 < 18446744073709551616 ∧ (r.int most).1.left.size ≤ r.left.size ∧ ((r.int most).2 = 0 ∨ ((r.int most).2 : Int) ≤ most) := by
  unfold Rd.int
  split
  · exact ⟨Nat.zero_lt_succ _, r.num_lt.2, .inl rfl⟩
  · exact ⟨r.num_lt.1, r.num_lt.2, .inr (by omega)⟩

def Rd.rest (r : Rd) : ByteArray := if r.torn then ⟨#[]⟩ else r.left
def Rd.fin (r : Rd) : Int := if r.torn = true ∨ r.left.size ≠ 0 then 10 else 0

theorem size_zero {s : ByteArray} (h : s.size = 0) : s = ⟨#[]⟩ := by
  refine bl_inj ?_
  have : (bl s).length = 0 := by rw [bl_length]; exact h
  rw [List.length_eq_zero_iff.1 this]; rfl
end Go.Proofs.Ytfpjdmplepepjaa

/-! ReaderT: The reader's walks, continued: Text, End. -/
namespace Go.Proofs.Ytfpjdmplepepjaa
open Go.RowKit

set_option maxRecDepth 100000 in
set_option maxHeartbeats 1000000 in
theorem rtext_any (b : Nat) (r : Rd) (most : Int) (w : World) (hr : IsRd w b r) (hs : r.left.size ≤ 4611686018427387904) (hm : most ≤ 9223372036854775807) :
    Calls Try.prog 38 #[.pointer (some ⟨b, 0, none⟩), .int .i64 most] w fun e w' => e = .returned (.string (r.text most).2) ∧ IsRd w' b (r.text most).1 ∧ Kept b w w' := by
  obtain ⟨i1, i2, i3⟩ := r.int_lt most
  obtain ⟨Q, hQ⟩ := nm (r.text most)
  rw [← hQ.out]
  obtain ⟨⟨⟨s, torn⟩, n⟩, hn⟩ := nm (r.int most)
  rw [← hn.out] at i1 i2 i3
  simp only at i1 i2 i3
  have hqq : Q = if torn = true ∨ s.size < n then (⟨s, true⟩, ⟨#[]⟩) else (⟨s.extract n s.size, false⟩, s.extract 0 n) := by rw [hQ.out, Rd.text, ← hn.out]
  have hn63 : n ≤ 9223372036854775807 := by omega
  cases torn
  · by_cases hsz : s.size < n
    · rw [if_pos (Or.inr hsz)] at hqq
      rw [hqq]; clear hqq
      go_enter Try.func38, Try.ntmps38
      go_wp2_with fail
      refine (rint_any b r most w hr hs hm).mono ?_; rintro e w1 ⟨rfl, h1, h2⟩
      rw [← hn.out] at h1 ⊢
      have c0 : w1.cell? ⟨b, 0, none⟩ = some (.string s) := h1.cell 0
      go_wp2_with (go_at_call 78; refine (fine_is false true rfl b s w1 h1).mono ?_; rintro e w2 ⟨rfl, rfl⟩)
      refine (tears_any b _ _ h1).mono ?_; rintro e w2 ⟨rfl, h3, h4⟩
      go_wp2_with fail
      go_ret
      exact ⟨rfl, h3, h2.trans h4⟩
    · rw [if_neg (by simp; omega)] at hqq
      rw [hqq]; clear hqq
      go_enter Try.func38, Try.ntmps38
      go_wp2_with fail
      refine (rint_any b r most w hr hs hm).mono ?_; rintro e w1 ⟨rfl, h1, h2⟩
      rw [← hn.out] at h1 ⊢
      have c0 : w1.cell? ⟨b, 0, none⟩ = some (.string s) := h1.cell 0
      have f0 : w1.frozen? ⟨b, 0, none⟩ = false := h1.free 0
      go_wp2_with (go_at_call 78; refine (fine_is false true rfl b s w1 h1).mono ?_; rintro e w2 ⟨rfl, rfl⟩)
      go_ret
      exact ⟨rfl, h1.setLeft _, h2.set _ _⟩
  · rw [if_pos (Or.inl rfl)] at hqq
    rw [hqq]; clear hqq
    go_enter Try.func38, Try.ntmps38
    go_wp2_with fail
    refine (rint_any b r most w hr hs hm).mono ?_; rintro e w1 ⟨rfl, h1, h2⟩
    rw [← hn.out] at h1 ⊢
    go_wp2_with (go_at_call 78; refine (fine_is true false rfl b s w1 h1).mono ?_; rintro e w2 ⟨rfl, rfl⟩)
    refine (tears_any b _ _ h1).mono ?_; rintro e w2 ⟨rfl, h3, h4⟩
    go_wp2_with fail
    go_ret
    exact ⟨rfl, h3, h2.trans h4⟩

set_option maxRecDepth 100000 in
set_option maxHeartbeats 1000000 in
theorem rend_any (b : Nat) (r : Rd) (w : World) (hr : IsRd w b r) :
    Calls Try.prog 42 #[.pointer (some ⟨b, 0, none⟩)] w fun e w' => e = .returned (.int .i64 r.fin) ∧ w = w' := by
  obtain ⟨s, torn⟩ := r
  cases torn
  · by_cases hz : s.size = 0
    · obtain rfl := size_zero hz
      have c0 : w.cell? ⟨b, 0, none⟩ = some (.string ⟨#[]⟩) := hr.cell 0
      rw [show (Rd.mk ⟨#[]⟩ false).fin = 0 from rfl]
      go_enter Try.func42, Try.ntmps42
      go_wp2_with (go_at_call 78; refine (fine_is false true rfl b _ w hr).mono ?_; rintro e w2 ⟨rfl, rfl⟩)
      go_ret
      exact ⟨rfl, rfl⟩
    · have c0 : w.cell? ⟨b, 0, none⟩ = some (.string s) := hr.cell 0
      have hni : s.toList.isEmpty = false := by
        rw [toList_bl, List.isEmpty_eq_false_iff]
        intro h
        rw [← bl_length, h] at hz
        exact hz rfl
      rw [show (Rd.mk s false).fin = 10 from by simp [Rd.fin, hz]]
      go_enter Try.func42, Try.ntmps42
      go_wp2_with (go_at_call 78; refine (fine_is false true rfl b _ w hr).mono ?_; rintro e w2 ⟨rfl, rfl⟩)
      go_ret
      exact ⟨rfl, rfl⟩
  · rw [show (Rd.mk s true).fin = 10 from by simp [Rd.fin]]
    go_enter Try.func42, Try.ntmps42
    go_wp2_with (go_at_call 78; refine (fine_is true false rfl b _ w hr).mono ?_; rintro e w2 ⟨rfl, rfl⟩)
    go_ret
    exact ⟨rfl, rfl⟩
end Go.Proofs.Ytfpjdmplepepjaa

/-! NumsT: What a reader that is torn reads. -/
namespace Go.Proofs.Ytfpjdmplepepjaa
open Go.RowKit


end Go.Proofs.Ytfpjdmplepepjaa

/-! Next: The reader's Nums: its closure, which appends to a list that it holds; the loop. -/
namespace Go.Proofs.Ytfpjdmplepepjaa
open Go.RowKit

/-- Of what lay below base only the blocks b and o may have turned. -/
structure Past (base b o : Nat) (w w' : World) : Prop where
  os : w'.os = w.os
  tape : w'.tape = w.tape
  output : w'.output = w.output
  size : w.heap.size ≤ w'.heap.size
  block : ∀ k, k < base → k ≠ b → k ≠ o → w'.heap[k]? = w.heap[k]?
theorem Past.refl (base b o : Nat) (w : World) : Past base b o w w := ⟨rfl, rfl, rfl, Nat.le_refl _, fun _ _ _ _ => rfl⟩
theorem Past.trans {base b o : Nat} {w v u : World} (h : Past base b o w v) (k : Past base b o v u) : Past base b o w u :=
  ⟨k.os.trans h.os, k.tape.trans h.tape, k.output.trans h.output, Nat.le_trans h.size k.size, fun i hi hb ho => (k.block i hi hb ho).trans (h.block i hi hb ho)⟩
theorem Kept.past {b : Nat} {w v : World} (h : Kept b w v) {base o : Nat} (hb : base ≤ w.heap.size) : Past base b o w v :=
  ⟨h.os, h.tape, h.output, h.size, fun k hk hne _ => h.block k (by omega) hne⟩
theorem Past.blk {base b o : Nat} {w v : World} {c : Array Value} {t : TypeId} (h : Past base b o w v) {k : Nat} (hk : Blk w k c t) (hl : k < base) (h1 : k ≠ b) (h2 : k ≠ o) : Blk v k c t := (h.block k hl h1 h2).trans hk
theorem grown_blk {w w' : World} {row : Option Nat} (h : w.grownBy w' row) {k : Nat} {c : Array Value} {t : TypeId} (hk : Blk w k c t) (hne : some k ≠ row) : Blk w' k c t := (h.block k hk.lt hne).trans hk

theorem infoInt : (Try.prog.info? 3).map (fun i => (i.zero, i.size, i.bytes)) = some (some (.int .i64 0), 1, 8) := by kernel_rfl

/-- What the closure of Nums holds: the list v (of zs), the reader, the number. -/
structure Holds (base b O R M : Nat) (r : Rd) (most : Int) (v : Value) (zs : List Int) (w : World) : Prop where
  lb : b < base
  lO : O < base
  lR : R < base
  lM : M < base
  bO : b ≠ O
  bR : b ≠ R
  bM : b ≠ M
  OR : O ≠ R
  OM : O ≠ M
  size : base ≤ w.heap.size
  rd : IsRd w b r
  out : Blk w O #[v] 60
  box : Blk w R #[.pointer (some ⟨b, 0, none⟩)] 71
  num : Blk w M #[.int .i64 most] 3
  own : w.ownsRow base 3 1 v zs.length (zs.map (Value.int .i64))

theorem rint3_any {base b O R M : Nat} {r : Rd} {most : Int} {v : Value} {zs : List Int} (w w0 : World) (h : Holds base b O R M r most v zs w) (hd : w0 = w.drew) (hs : r.left.size ≤ 4611686018427387904) (hm : most ≤ 9223372036854775807) :
    Calls Try.prog 77 #[.pointer (some ⟨b, 0, none⟩), .int .i64 most] w0 fun e w' => e = .returned (.int .i64 ((r.int most).2 : Nat)) ∧ (Holds base b O R M (r.int most).1 most v zs w' ∧ Kept b w w') ∧
      w'.cell? ⟨O, 0, none⟩ = some v ∧ w'.cell? ⟨R, 0, none⟩ = some (.pointer (some ⟨b, 0, none⟩)) ∧ w'.cell? ⟨M, 0, none⟩ = some (.int .i64 most) := by
  subst hd
  refine (rint_any b r most _ h.rd.drew hs hm).mono ?_
  rintro e w' ⟨rfl, h1, hk⟩
  have hk2 : Kept b w w' := (Kept.refl b w).drew.trans hk
  have o1 := hk2.blk h.out h.bO.symm
  have o2 := hk2.blk h.box h.bR.symm
  have o3 := hk2.blk h.num h.bM.symm
  refine ⟨rfl, ⟨⟨h.lb, h.lO, h.lR, h.lM, h.bO, h.bR, h.bM, h.OR, h.OM, Nat.le_trans h.size hk2.size, h1, o1, o2, o3, ?_⟩, hk2⟩, o1.cell 0, o2.cell 0, o3.cell 0⟩
  have hg : w.grownBy w' (some b) := ⟨hk2.os, hk2.tape, hk2.output, hk2.size, fun k hk' hne => hk2.block k hk' (fun e => hne (by rw [e]))⟩
  refine h.own.kept hg ?_
  cases hv : v.ownBlock with
  | none => exact .inl rfl
  | some g =>
    right
    intro e
    have := (h.own.lt g hv).1
    have := h.lb
    cases e
    omega

theorem Holds.far {base b O R M : Nat} {r : Rd} {most : Int} {v : Value} {zs : List Int} {w w2 : World} {o : Obj} (h : Holds base b O R M r most v zs w) (hg : (w.alloc o).grownBy w2 v.ownBlock) :
    IsRd w2 b r ∧ Blk w2 O #[v] 60 ∧ Blk w2 R #[.pointer (some ⟨b, 0, none⟩)] 71 ∧ Blk w2 M #[.int .i64 most] 3 := by
  have hne : ∀ k, k < base → some k ≠ v.ownBlock := by
    intro k hk e
    have := (h.own.lt k e.symm).1
    omega
  exact ⟨grown_blk hg (h.rd.alloc o) (hne _ h.lb), grown_blk hg (h.out.alloc o) (hne _ h.lO), grown_blk hg (h.box.alloc o) (hne _ h.lR), grown_blk hg (h.num.alloc o) (hne _ h.lM)⟩

/-- Behind the append and its store. -/
theorem Holds.push {base b O R M : Nat} {r : Rd} {most : Int} {v : Value} {zs : List Int} {w w2 : World} {o : Obj} {g cap : Nat} {z : Int} (h : Holds base b O R M r most v zs w) (hg : (w.alloc o).grownBy w2 v.ownBlock)
    (hown : w2.ownsRow base 3 1 (.slice (some ⟨g, 0, none⟩) (zs.length + 1) cap) (zs.length + 1) (zs.map (Value.int .i64) ++ [.int .i64 z])) :
    Holds base b O R M r most (.slice (some ⟨g, 0, none⟩) (zs.length + 1) cap) (zs ++ [z]) (w2.setCell ⟨O, 0, none⟩ (.slice (some ⟨g, 0, none⟩) (zs.length + 1) cap)) ∧
      Past base b O w (w2.setCell ⟨O, 0, none⟩ (.slice (some ⟨g, 0, none⟩) (zs.length + 1) cap)) := by
  obtain ⟨d0, d1, d2, d3⟩ := h.far hg
  have hsz : w.heap.size ≤ w2.heap.size := Nat.le_trans (by simp) hg.size
  have hge : base ≤ g := (hown.lt g rfl).1
  have hg2 : w2.grownBy (w2.setCell ⟨O, 0, none⟩ (.slice (some ⟨g, 0, none⟩) (zs.length + 1) cap)) (some O) :=
    ⟨rfl, rfl, rfl, by simp [World.setCell], fun k _ hk => Below.heap_setCell _ _ _ _ (fun e => hk (by rw [e]))⟩
  refine ⟨⟨h.lb, h.lO, h.lR, h.lM, h.bO, h.bR, h.bM, h.OR, h.OM, ?_, Blk.setOther d0 h.bO _, Blk.set d1 0 _, Blk.setOther d2 h.OR.symm _, Blk.setOther d3 h.OM.symm _, ?_⟩, ?_⟩
  · have := h.size
    have := hg2.size
    omega
  · have := hown.kept hg2 (.inr (by simp only [Value.ownBlock]; intro e; cases e; have := h.lO; omega))
    simpa using this
  · refine ⟨hg.os, hg.tape, hg.output, Nat.le_trans hsz hg2.size, fun k hk h1 h2 => ?_⟩
    rw [hg2.block k (by have := h.size; omega) (by simp [h2]), hg.block k (by have := h.size; simp; omega) (by intro e; have := (h.own.lt k e.symm).1; omega), Below.heap_alloc _ _ _ (by have := h.size; omega)]

set_option maxRecDepth 100000 in
set_option maxHeartbeats 4000000 in
theorem next_any {base b O R M : Nat} {r : Rd} {most : Int} {v : Value} {zs : List Int} (w : World) (h : Holds base b O R M r most v zs w) (hs : r.left.size ≤ 4611686018427387904) (hm : most ≤ 9223372036854775807) (hz : zs.length ≤ 1000000) :
    Calls Try.prog 76 #[.pointer (some ⟨O, 0, none⟩), .pointer (some ⟨R, 0, none⟩), .pointer (some ⟨M, 0, none⟩)] w fun e w' =>
      e = .returned (.bool (!(r.int most).1.torn)) ∧ ∃ v', Holds base b O R M (r.int most).1 most v' (zs ++ [((r.int most).2 : Int)]) w' ∧ Past base b O w w' := by
  have c1 : w.cell? ⟨O, 0, none⟩ = some v := h.out.cell 0
  have c2 : w.cell? ⟨R, 0, none⟩ = some (.pointer (some ⟨b, 0, none⟩)) := h.box.cell 0
  have c3 : w.cell? ⟨M, 0, none⟩ = some (.int .i64 most) := h.num.cell 0
  obtain ⟨z, hzz⟩ := nm (r.int most).2
  obtain ⟨q, hq⟩ := nm (r.int most).1
  rw [← hzz.out, ← hq.out]
  have HR : Hid (∀ w0 : World, w0 = w.drew → Calls Try.prog 77 #[.pointer (some ⟨b, 0, none⟩), .int .i64 most] w0 fun e w' => e = .returned (.int .i64 (z : Nat)) ∧ (Holds base b O R M q most v zs w' ∧ Kept b w w') ∧
      w'.cell? ⟨O, 0, none⟩ = some v ∧ w'.cell? ⟨R, 0, none⟩ = some (.pointer (some ⟨b, 0, none⟩)) ∧ w'.cell? ⟨M, 0, none⟩ = some (.int .i64 most)) := by
    show ∀ _, _
    rw [hzz.out, hq.out]
    exact fun w0 hd => rint3_any w w0 h hd hs hm
  obtain ⟨i0, hi, hz0, hz1, hz2⟩ := info_parts infoInt
  go_enter Try.func76, Try.ntmps76
  go_wp2
  go_region_law
    (first
      | (go_simp; go_at_call 77; refine (HR.out _ ?_).mono ?_; rfl; rintro e w1 ⟨rfl, h1, g1, g2, g3⟩; have g4 : ∀ o, (w1.alloc o).cell? ⟨O, 0, none⟩ = some v := fun o => (h1.1.out.alloc o).cell 0; simp only [])
      | (refine step_append_lies _ (by rfl) _ _ 60 (by rfl) base 3 i0 (.int .i64 0) 1 8 Try.underlying60 hi hz0 hz1 hz2 rfl (by decide) v zs.length (zs.map (Value.int .i64)) (by rfl) (h1.1.own.alloc _) ⟨w1.heap.size, 0, none⟩ 1 1 [.int .i64 z] (by rfl) rfl
          (World.news_of_block (heap_alloc_new w1 _)) (by simp [Value.oneCell']) (by decide) (by unfold maxLen; omega) (by omega) (Nat.le_trans h1.1.size (by simp)) _ rfl ?_
         intro g cap w2 hown hgrow hat hlt
         obtain ⟨d0, d1, d2, d3⟩ := h1.1.far hgrow
         have e1 : w2.cell? ⟨O, 0, none⟩ = some v := d1.cell 0
         have e2 : w2.cell? ⟨R, 0, none⟩ = some (.pointer (some ⟨b, 0, none⟩)) := d2.cell 0
         have e3 : w2.cell? ⟨M, 0, none⟩ = some (.int .i64 most) := d3.cell 0
         have e4 : w2.frozen? ⟨O, 0, none⟩ = false := d1.free 0))
  all_goals
    obtain ⟨hH, hP⟩ := h1.1.push hgrow hown
    have hbx := hH.box.cell 0
    go_wp2_with fail
    refine (fine_any b _ _ hH.rd).mono ?_; rintro e w4 ⟨rfl, rfl⟩
    go_wp2_with fail
    go_ret
    exact ⟨rfl, _, hH, (h1.2.past h.size).trans hP⟩
end Go.Proofs.Ytfpjdmplepepjaa

/-! ReadNums: The reader's Nums, whole. -/
namespace Go.Proofs.Ytfpjdmplepepjaa
open Go.RowKit

/-- So many numbers are read, none above most. -/
def Rd.items (most : Int) : Nat → Rd → Rd × Option (List Int)
  | 0, r => (r, some [])
  | k + 1, r => if (r.int most).1.torn then ((r.int most).1, none) else ((Rd.items most k (r.int most).1).1, (Rd.items most k (r.int most).1).2.map (((r.int most).2 : Int) :: ·))
def Rd.nums (r : Rd) (many most : Int) : Rd × List Int := ((Rd.items most (r.int many).2 (r.int many).1).1, (Rd.items most (r.int many).2 (r.int many).1).2.getD [])

theorem Rd.num_uses (r : Rd) (h : r.num.1.torn = false) : r.torn = false ∧ r.num.1.left.size + 1 ≤ r.left.size := by
  unfold Rd.num at h ⊢
  split at h
  · rename_i ht; simp only at h; rw [ht] at h; cases h
  · rename_i ht
    rw [if_neg ht]
    split at h
    · rename_i n l hq
      have h2 := (Pl.rdG_lt _ _ _ _ _ _ hq).2
      rw [bl_length] at h2
      exact ⟨by simpa using ht, by simp only [ofL_size]; omega⟩
    · cases h
theorem Rd.int_uses (r : Rd) (m : Int) (h : (r.int m).1.torn = false) : r.torn = false ∧ (r.int m).1.left.size + 1 ≤ r.left.size := by
  unfold Rd.int at h ⊢
  split at h
  · cases h
  · rename_i hc
    rw [if_neg hc]
    exact r.num_uses h
theorem Rd.int_none (r : Rd) (m : Int) (h : (r.int m).2 ≠ 0) : (r.int m).1.torn = false := by
  unfold Rd.int at h ⊢
  split at h
  · exact absurd rfl h
  · rename_i hc
    rw [if_neg hc]
    unfold Rd.num at h ⊢
    split at h
    · exact absurd rfl h
    · rename_i ht
      rw [if_neg ht]
      split at h
      · rfl
      · exact absurd rfl h

/-- A slice that a call owns, as its elements. -/
theorem SlAt.own {w : World} {base : Nat} {v : Value} {zs : List Int} (h : w.ownsRow base 3 1 v zs.length (zs.map (Value.int .i64))) :
    ∃ ao cap, v = .slice ao zs.length cap ∧ zs.length ≤ cap ∧ SlAt w ao (zs.map (Value.int .i64)) := by
  rcases h.2 with ⟨rfl, h0⟩ | ⟨g, cap, cur, rfl, _, hg, hc, _, _, ht⟩
  · exact ⟨none, 0, by rw [h0], by omega, fun k hk => by rw [List.length_map, h0] at hk; omega⟩
  · refine ⟨some ⟨g, 0, none⟩, cap, rfl, hc, fun k _ => ⟨g, 0, rfl, lt_of_block hg, fun j hj => ?_⟩⟩
    rw [List.length_map] at hj
    rw [Nat.zero_add, ← ht, List.getElem?_take, if_pos (by omega)]
    simp [World.cell?, hg]

theorem Holds.start {b : Nat} {r : Rd} {most : Int} {w w1 : World} {o1 o2 o3 : Obj} (e1 : o1 = .cells #[.pointer (some ⟨b, 0, none⟩)] 71) (e2 : o2 = .cells #[.int .i64 most] 3) (e3 : o3 = .cells #[.slice none 0 0] 60)
    (hb : b < w.heap.size) (hk : Kept b (((w.alloc o1).alloc o2).alloc o3) w1) (hr : IsRd w1 b r) :
    Holds (w.heap.size + 3) b (w.heap.size + 1 + 1) w.heap.size (w.heap.size + 1) r most (.slice none 0 0) [] w1 := by
  subst e1 e2 e3
  have hs := hk.size
  simp at hs
  refine ⟨by omega, by omega, by omega, by omega, by omega, by omega, by omega, by omega, by omega, by omega, hr, ?_, ?_, ?_, ⟨rfl, .inl ⟨rfl, rfl⟩⟩⟩
  · have := hk.blk (Blk.new ((w.alloc (.cells #[.pointer (some ⟨b, 0, none⟩)] 71)).alloc (.cells #[.int .i64 most] 3)) #[.slice none 0 0] 60) (by simp; omega)
    simpa using this
  · exact hk.blk (((Blk.new w _ _).alloc _).alloc _) (by omega)
  · have := hk.blk ((Blk.new (w.alloc (.cells #[.pointer (some ⟨b, 0, none⟩)] 71)) #[.int .i64 most] 3).alloc (.cells #[.slice none 0 0] 60)) (by simp; omega)
    simpa using this

theorem Past.kept {b o base : Nat} {w w1 w2 : World} (hk : Kept b w w1) (hP : Past base b o w1 w2) (h1 : w.heap.size ≤ base) (h2 : w.heap.size ≤ o) : Kept b w w2 :=
  ⟨hP.os.trans hk.os, hP.tape.trans hk.tape, hP.output.trans hk.output, Nat.le_trans hk.size hP.size, fun k hk' hne => (hP.block k (by omega) hne (by omega)).trans (hk.block k hk' hne)⟩

set_option maxRecDepth 100000 in
set_option maxHeartbeats 4000000 in
theorem rnums_any (b : Nat) (r : Rd) (many most : Int) (w : World) (hr : IsRd w b r) (hs : r.left.size ≤ 1000000) (hm : many ≤ 9223372036854775807) (hm2 : most ≤ 9223372036854775807) :
    Calls Try.prog 37 #[.pointer (some ⟨b, 0, none⟩), .int .i64 many, .int .i64 most] w fun e w' =>
      ∃ ao cap, e = .returned (.slice ao (r.nums many most).2.length cap) ∧ (r.nums many most).2.length ≤ cap ∧ SlAt w' ao ((r.nums many most).2.map (Value.int .i64)) ∧ IsRd w' b (r.nums many most).1 ∧ Kept b w w' := by
  have hbl := hr.lt
  obtain ⟨i1, i2, i3⟩ := r.int_lt many
  have i4 := r.int_none many
  have i5 := r.int_uses many
  obtain ⟨q, hq⟩ := nm (r.int many).1
  obtain ⟨n, hn⟩ := nm (r.int many).2
  rw [← hq.out] at i2 i4 i5
  rw [← hn.out] at i1 i3 i4
  have hn63 : n ≤ 9223372036854775807 := by omega
  obtain ⟨Q, hQ⟩ := nm (r.nums many most)
  have hq2 : Q = ((Rd.items most n q).1, (Rd.items most n q).2.getD []) := by rw [hQ.out, Rd.nums, hn.out, hq.out]
  rw [← hQ.out]
  have HQ := Lib.hid hq2
  clear hq2
  have I4 := Lib.hid i4
  have I5 := Lib.hid i5
  clear i4 i5 i3
  go_enter Try.func37, Try.ntmps37
  go_wp2_with fail
  refine (rint_any b r many _ (((hr.alloc _).alloc _).alloc _) (by omega) hm).mono ?_; rintro e w1 ⟨rfl, h1, hk⟩
  rw [← hq.out] at h1
  rw [← hn.out]
  have hH := Holds.start rfl rfl rfl hbl hk h1
  have hP : Past (w.heap.size + 3) b (w.heap.size + 1 + 1) w1 w1 := Past.refl _ _ _ _
  replace hk := (((Kept.refl b w).alloc _).alloc _).alloc _ |>.trans hk
  clear h1
  go_wp2_with fail
  go_loopw [13] (fun i wr => ∃ (k : Nat) (ri : Rd) (v : Value) (zs : List Int), k ≤ n ∧ i = .int .i64 (k : Int) ∧ zs.length = k ∧ Holds (w.heap.size + 3) b (w.heap.size + 1 + 1) w.heap.size (w.heap.size + 1) ri most v zs wr ∧ Past (w.heap.size + 3) b (w.heap.size + 1 + 1) w1 wr ∧
    (k < n → ri.torn = false) ∧ ri.left.size + k ≤ 1000000 ∧ Hid (Rd.items most n q = ((Rd.items most (n - k) ri).1, (Rd.items most (n - k) ri).2.map (zs ++ ·)))) (fun i _ => n - (intOf i).toNat)
  case atStart => exact ⟨0, q, _, [], by omega, rfl, rfl, hH, hP, fun h => I4.out (by omega), by omega, Lib.hid (by simp)⟩
  case round =>
    clear hH hP
    obtain ⟨k, ri, v, zs, hkn, rfl, hz, hH, hP, ht, hsz, hI⟩ := hrel
    by_cases hlt : k < n
    · have hfine := ht hlt
      obtain ⟨e1, e2, e3⟩ := ri.int_lt most
      have u1 := ri.int_uses most
      have hst : Rd.items most (n - k) ri = if (ri.int most).1.torn then ((ri.int most).1, none) else ((Rd.items most (n - (k + 1)) (ri.int most).1).1, (Rd.items most (n - (k + 1)) (ri.int most).1).2.map (((ri.int most).2 : Int) :: ·)) := by
        rw [show n - k = (n - (k + 1)) + 1 from by omega, Rd.items]
      obtain ⟨rj, hj⟩ := nm (ri.int most).1
      obtain ⟨z, hzz⟩ := nm (ri.int most).2
      go_wp2_with fail
      refine (next_any _ hH (by omega) hm2 (by omega)).mono ?_; rintro e w2 ⟨rfl, v', hH2, hP2⟩
      rw [← hj.out, ← hzz.out] at hH2
      rw [← hj.out]
      have hP3 := hP.trans hP2
      clear hH hP hP2
      rw [← hj.out, ← hzz.out] at hst
      rw [← hj.out] at e2 u1
      have htt : rj.torn = false ∨ rj.torn = true := by cases rj.torn <;> simp
      rcases htt with htt | htt
      · have u2 := (u1 htt).2
        rw [htt] at hst ⊢
        rw [if_neg (by decide)] at hst
        have HI : Hid (Rd.items most n q = ((Rd.items most (n - (k + 1)) rj).1, (Rd.items most (n - (k + 1)) rj).2.map ((zs ++ [(z : Int)]) ++ ·))) := by
          show _ = _
          rw [hI.out, hst]
          simp only [Option.map_map]
          congr 2
          funext l
          simp
        clear hst hI u1
        go_wp2_with fail
        go_roundw
        case rel => exact ⟨k + 1, rj, v', zs ++ [(z : Int)], by omega, by go_num, by simp [hz], hH2, hP3, fun _ => htt, by omega, HI⟩
        case measure => simp [intOf]; omega
      · have HE : Hid (Q = (rj, [])) := by
          show _ = _
          rw [HQ.out, hI.out, hst, htt]; rfl
        clear hst hI u1
        rw [htt]
        go_wp2_with fail
        go_ret
        rw [HE.out]
        exact ⟨none, 0, rfl, Nat.le_refl _, (fun k hk => by simp at hk), hH2.rd, hP3.kept hk (by omega) (by omega)⟩
    · obtain rfl : k = n := by omega
      have HE : Hid (Q = (ri, zs)) := by
        show _ = _
        rw [HQ.out, hI.out, Nat.sub_self]
        simp [Rd.items]
      obtain ⟨ao, cap, rfl, hcap, hsl⟩ := SlAt.own hH.own
      have cO := hH.out.cell 0
      have cO2 : wr.cell? ⟨w.heap.size + 1 + 1, 0, none⟩ = some (.slice ao zs.length cap) := cO
      clear cO
      go_wp2_with fail
      go_ret
      rw [HE.out]
      exact ⟨ao, cap, (by show _ = Ending.returned (Value.slice ao zs.length cap); rw [hz]; rfl), hcap, hsl, hH.rd, hP.kept hk (by omega) (by omega)⟩
end Go.Proofs.Ytfpjdmplepepjaa

/-! BackPlain: What was written is read again: a number, a text, a list; what stands behind is left. No program in sight. -/
namespace Go.Proofs.Ytfpjdmplepepjaa
open Go.RowKit

theorem Rd.num_back (n : Nat) (hn : n < 18446744073709551616) (t : List UInt8) : (Rd.mk (ofL (Pl.num n ++ t)) false).num = (⟨ofL t, false⟩, n) := by
  rw [Rd.num, if_neg (by simp)]
  show (match Pl.rdNum (Pl.num n ++ t) with | some (n, l) => ((⟨ofL l, false⟩ : Rd), n) | none => _) = _
  rw [Pl.rd_num n hn t]

theorem Rd.int_back (n : Nat) (most : Int) (hn : n < 18446744073709551616) (h : (n : Int) ≤ most) (t : List UInt8) : (Rd.mk (ofL (Pl.num n ++ t)) false).int most = (⟨ofL t, false⟩, n) := by
  rw [Rd.int, Rd.num_back n hn t, if_neg (by simp only; omega)]

theorem Rd.text_back (l t : List UInt8) (most : Int) (h : (l.length : Int) ≤ most) (h2 : l.length < 18446744073709551616) : (Rd.mk (ofL (textL l ++ t)) false).text most = (⟨ofL t, false⟩, ofL l) := by
  have e := Rd.int_back l.length most h2 h (l ++ t)
  rw [← List.append_assoc] at e
  have e2 : (Rd.mk (ofL (textL l ++ t)) false).int most = (⟨ofL (l ++ t), false⟩, l.length) := e
  rw [Rd.text, e2, if_neg]
  · simp only
    refine Prod.ext ?_ ?_
    · simp only [Rd.mk.injEq, and_true]
      refine bl_inj ?_
      rw [bl_extract, bl_ofL, bl_ofL, List.drop_left, List.take_of_length_le (by rw [ofL_size, List.length_append]; omega)]
    · refine bl_inj ?_
      rw [bl_extract, bl_ofL, bl_ofL, List.drop_zero, Nat.sub_zero, List.take_left]
  · simp only [ofL_size, List.length_append]
    intro h
    rcases h with h | h
    · cases h
    · omega

theorem Rd.items_back (most : Int) : ∀ (zs : List Int) (t : List UInt8), (∀ z ∈ zs, 0 ≤ z ∧ z ≤ most ∧ z < 18446744073709551616) → Rd.items most zs.length (Rd.mk (ofL (intsL zs ++ t)) false) = (⟨ofL t, false⟩, some zs)
  | [], t, _ => rfl
  | z :: zs, t, h => by
    obtain ⟨h1, h2, h3⟩ := h z (by simp)
    have e : intsL (z :: zs) ++ t = Pl.num z.toNat ++ (intsL zs ++ t) := by simp [intsL]
    have e2 := Rd.int_back z.toNat most (by omega) (by omega) (intsL zs ++ t)
    rw [List.length_cons, Rd.items, e, e2]
    simp only [Bool.false_eq_true, if_false]
    rw [Rd.items_back most zs t (fun y hy => h y (by simp [hy]))]
    simp only [Option.map_some]
    rw [show ((z.toNat : Nat) : Int) = z from by omega]

theorem Rd.nums_back (most many : Int) (zs : List Int) (t : List UInt8) (hl : zs.length < 18446744073709551616) (h0 : (zs.length : Int) ≤ many) (h : ∀ z ∈ zs, 0 ≤ z ∧ z ≤ most ∧ z < 18446744073709551616) :
    (Rd.mk (ofL (numsL zs ++ t)) false).nums many most = (⟨ofL t, false⟩, zs) := by
  have e := Rd.int_back zs.length many hl h0 (intsL zs ++ t)
  rw [← List.append_assoc] at e
  have e2 : (Rd.mk (ofL (numsL zs ++ t)) false).int many = (⟨ofL (intsL zs ++ t), false⟩, zs.length) := e
  rw [Rd.nums, e2]
  simp only
  rw [Rd.items_back most zs t h]
  rfl
end Go.Proofs.Ytfpjdmplepepjaa

/-! PlainR: The document's reader of a number is the program's. No program in sight. -/
namespace Go.Proofs.Ytfpjdmplepepjaa.Pl

/-- What is read is a number's digits. -/
theorem rdG_is : ∀ (f : Nat) (first : Bool) (m : Nat) (l : List UInt8) (n : Nat) (r : List UInt8), rdG f first m l = some (n, r) →
    ∃ k, k + 1 ≤ f ∧ m = n / 128 ^ (k + 1) ∧ l = dg k (n / 128) ++ UInt8.ofNat (n % 128) :: r ∧ (first = true → k = 0 ∨ n / 128 ^ k % 128 ≠ 0)
  | 0, _, _, _, _, _, h => by cases h
  | f + 1, _, _, [], _, _, h => by cases h
  | f + 1, first, m, c :: l, n, r, h => by
    rw [rdG] at h
    have hc := c.toNat_lt
    split at h
    · cases h
    · rename_i hb
      split at h
      · rename_i hc2
        have hc3 : c.toNat < 128 := by rw [UInt8.lt_iff_toNat_lt] at hc2; exact hc2
        cases h
        refine ⟨0, by omega, by omega, ?_, fun _ => .inl rfl⟩
        have e : (m * 128 + c.toNat % 128) % 128 = c.toNat := by omega
        rw [e]
        simp [dg]
      · rename_i hc2
        have hc3 : 128 ≤ c.toNat := by
          rcases Nat.lt_or_ge c.toNat 128 with h' | h'
          · exact absurd (UInt8.lt_iff_toNat_lt.2 h') hc2
          · exact h'
        obtain ⟨k, h1, h2, h3, _⟩ := rdG_is f false _ l n r h
        have e0 : n / 128 / 128 ^ k = n / 128 ^ (k + 1) := by rw [Nat.div_div_eq_div_mul, Nat.pow_succ, Nat.mul_comm]
        have e1 : n / 128 ^ (k + 1 + 1) = n / 128 ^ (k + 1) / 128 := by rw [Nat.div_div_eq_div_mul, Nat.pow_succ]
        refine ⟨k + 1, by omega, by rw [e1, ← h2]; omega, ?_, fun hf => .inr ?_⟩
        · rw [dg, e0, ← h2, List.cons_append, ← h3]
          congr 1
          have e : 128 + (m * 128 + c.toNat % 128) % 128 = c.toNat := by omega
          rw [e]
          simp
        · rw [← h2]
          intro h0
          apply hb
          right
          refine ⟨hf, UInt8.toNat_inj.1 ?_⟩
          show c.toNat = 128
          omega

theorem rdNum_is (l : List UInt8) (n : Nat) (r : List UInt8) (hn : n < 18446744073709551616) (h : rdNum l = some (n, r)) : l = num n ++ r := by
  obtain ⟨k, h1, h2, h3, h4⟩ := rdG_is 10 true 0 l n r h
  have hk : k + 1 = nd n := by
    refine nd_unique n (k + 1) hn (by omega) ?_ ?_
    · rcases Nat.lt_or_ge n (128 ^ (k + 1)) with h5 | h5
      · exact h5
      · have : 1 ≤ n / 128 ^ (k + 1) := by rw [Nat.le_div_iff_mul_le (Nat.pow_pos (by decide))]; omega
        omega
    · rcases h4 rfl with h5 | h5
      · left; omega
      · right
        rw [Nat.add_sub_cancel]
        rcases Nat.lt_or_ge n (128 ^ k) with h6 | h6
        · rw [Nat.div_eq_of_lt h6] at h5; exact absurd rfl h5
        · exact h6
  rw [h3, num, ← hk, Nat.add_sub_cancel]
  simp
end Go.Proofs.Ytfpjdmplepepjaa.Pl

/-! WRed: What a reader reads, as what stands there. No program in sight. -/
namespace Go.Proofs.Ytfpjdmplepepjaa
open Go.RowKit

/-- Behind r stands an x that is so, and r' stands behind it; or r' is torn, and no such stands there. -/
def Red {α : Type} (P : α → Prop) (f : α → List UInt8) (r r' : Rd) (x : α) : Prop :=
  (r'.torn = false ∧ r.torn = false ∧ P x ∧ bl r.left = f x ++ bl r'.left) ∨ (r'.torn = true ∧ ∀ y t, r.torn = false → P y → bl r.left ≠ f y ++ t)
section
variable {α β : Type} {P : α → Prop} {f : α → List UInt8} {r r' r'' : Rd} {x : α}
theorem Red.iff {P' : α → Prop} (h : Red P f r r' x) (hp : ∀ y, P y ↔ P' y) : Red P' f r r' x := by
  rcases h with ⟨h1, h2, h3, h4⟩ | ⟨h1, h2⟩
  · exact .inl ⟨h1, h2, (hp x).1 h3, h4⟩
  · exact .inr ⟨h1, fun y t ht hy => h2 y t ht ((hp y).2 hy)⟩
/-- As another kind of thing. -/
theorem Red.map {P' : β → Prop} {f' : β → List UInt8} (u : α → β) (v : β → α) (h : Red P f r r' x) (h1 : ∀ y, P y → P' (u y) ∧ f' (u y) = f y) (h2 : ∀ z, P' z → P (v z) ∧ f (v z) = f' z) : Red P' f' r r' (u x) := by
  rcases h with ⟨g1, g2, g3, g4⟩ | ⟨g1, g2⟩
  · exact .inl ⟨g1, g2, (h1 x g3).1, by rw [(h1 x g3).2]; exact g4⟩
  · exact .inr ⟨g1, fun y t ht hy => by rw [← (h2 y hy).2]; exact g2 (v y) t ht (h2 y hy).1⟩
theorem Red.torn (h : Red P f r r' x) (ht : r.torn = true) : r'.torn = true := by
  rcases h with ⟨_, h2, _⟩ | ⟨h1, _⟩
  · rw [ht] at h2; cases h2
  · exact h1
theorem Red.is (h : Red P f r r' x) (ht : r'.torn = false) : r.torn = false ∧ P x ∧ bl r.left = f x ++ bl r'.left := by
  rcases h with ⟨_, h2⟩ | ⟨h1, _⟩
  · exact h2
  · rw [ht] at h1; cases h1
theorem Red.none (h : Red P f r r' x) (ht : r'.torn = true) : ∀ y t, r.torn = false → P y → bl r.left ≠ f y ++ t := by
  rcases h with ⟨h1, _⟩ | ⟨_, h2⟩
  · rw [ht] at h1; cases h1
  · exact h2
/-- One thing, and another one behind it. -/
theorem Red.seq {Q : β → Prop} {g : β → List UInt8} {y : β} (h : Red P f r r' x) (k : Red Q g r' r'' y) (ht : Tells P f) : Red (fun p : α × β => P p.1 ∧ Q p.2) (fun p => f p.1 ++ g p.2) r r'' (x, y) := by
  rcases h with ⟨h1, h2, h3, h4⟩ | ⟨h1, h2⟩
  · rcases k with ⟨k1, _, k3, k4⟩ | ⟨k1, k2⟩
    · exact .inl ⟨k1, h2, ⟨h3, k3⟩, by rw [h4, k4, List.append_assoc]⟩
    · refine .inr ⟨k1, fun z t _ hz e => ?_⟩
      rw [h4, List.append_assoc] at e
      obtain ⟨_, e2⟩ := ht _ _ _ _ h3 hz.1 e
      exact k2 z.2 t h1 hz.2 e2
  · refine .inr ⟨k.torn h1, fun z t hr hz e => ?_⟩
    simp only [List.append_assoc] at e
    exact h2 z.1 _ hr hz.1 e
/-- What is read may be. -/
theorem Red.pass {C : α → Prop} (h : Red P f r r' x) (hc : r'.torn = false → C x) : Red (fun y => P y ∧ C y) f r r' x := by
  rcases h with ⟨h1, h2, h3, h4⟩ | ⟨h1, h2⟩
  · exact .inl ⟨h1, h2, ⟨h3, hc h1⟩, h4⟩
  · exact .inr ⟨h1, fun y t ht hy => h2 y t ht hy.1⟩
/-- It may not, or nothing was read. -/
theorem Red.fail {C : α → Prop} {z : α} (h : Red P f r r' x) (ht : Tells P f) (hc : r'.torn = true ∨ ¬ C x) (hr : r''.torn = true) : Red (fun y => P y ∧ C y) f r r'' z := by
  refine .inr ⟨hr, fun y t hr hy e => ?_⟩
  rcases h with ⟨h1, h2, h3, h4⟩ | ⟨h1, h2⟩
  · rcases hc with hc | hc
    · rw [h1] at hc; cases hc
    · rw [h4] at e
      obtain ⟨e1, _⟩ := ht _ _ _ _ h3 hy.1 e
      exact hc (e1 ▸ hy.2)
  · exact h2 y t hr hy.1 e
/-- Torn already: whatever it says. -/
theorem Red.any {z : α} (h : Red P f r r' x) (ht : r'.torn = true) (hr : r''.torn = true) : Red P f r r'' z := .inr ⟨hr, h.none ht⟩
end
theorem Tells.sub {α : Type} {P Q : α → Prop} {f : α → List UInt8} (h : Tells P f) (hq : ∀ x, Q x → P x) : Tells Q f := fun x y r t hx hy e => h x y r t (hq x hx) (hq y hy) e
theorem Tells.seq {α β : Type} {P : α → Prop} {Q : β → Prop} {f : α → List UInt8} {g : β → List UInt8} (h : Tells P f) (k : Tells Q g) : Tells (fun p : α × β => P p.1 ∧ Q p.2) (fun p => f p.1 ++ g p.2) := by
  rintro ⟨x1, x2⟩ ⟨y1, y2⟩ r t ⟨hx1, hx2⟩ ⟨hy1, hy2⟩ e
  simp only [List.append_assoc] at e
  obtain ⟨e1, e⟩ := h _ _ _ _ hx1 hy1 e
  obtain ⟨e2, e⟩ := k _ _ _ _ hx2 hy2 e
  exact ⟨by rw [show x1 = y1 from e1, show x2 = y2 from e2], e⟩

/-! ### Numbers, texts -/
def In (most z : Int) : Prop := 0 ≤ z ∧ z ≤ most
def numZ (z : Int) : List UInt8 := Pl.num z.toNat
theorem tells_in {most : Int} (h : most ≤ 9223372036854775807) : Tells (In most) numZ := Tells.sub tells_num fun x hx => ⟨hx.1, by have := hx.2; omega⟩
theorem red_int (r : Rd) (most : Int) (hm : most ≤ 9223372036854775807) : Red (In most) numZ r (r.int most).1 ((r.int most).2 : Int) := by
  obtain ⟨s, t⟩ := r
  cases t
  rotate_left
  · refine .inr ⟨?_, fun _ _ h => by cases h⟩
    unfold Rd.int
    split
    · rfl
    · rfl
  unfold Rd.int
  have hn : (Rd.mk s false).num = match Pl.rdNum (bl s) with | some (n, l) => (⟨ofL l, false⟩, n) | none => (⟨s, true⟩, 0) := rfl
  rw [hn]
  cases hq : Pl.rdNum (bl s) with
  | none =>
    simp only
    have key : ∀ y t, In most y → bl s ≠ numZ y ++ t := by
      intro y t hy e
      rw [e, numZ, Pl.rd_num _ (by have := hy.2; have := hy.1; omega)] at hq
      cases hq
    split
    · exact .inr ⟨rfl, fun y t _ hy => key y t hy⟩
    · exact .inr ⟨rfl, fun y t _ hy => key y t hy⟩
  | some q =>
    obtain ⟨n, l⟩ := q
    have hlt := (Pl.rdG_lt _ _ _ _ _ _ hq).1
    have his := Pl.rdNum_is _ _ _ hlt hq
    simp only
    split
    · rename_i hc
      refine .inr ⟨rfl, fun y t _ hy e => ?_⟩
      simp only at e
      rw [his] at e
      have h1 := hy.1
      have h2 := hy.2
      obtain ⟨e1, _⟩ := Pl.num_inj hlt (by omega) e
      rcases hc with hc | hc
      · omega
      · rw [e1] at hc; omega
    · rename_i hc
      refine .inl ⟨rfl, rfl, ⟨by omega, by omega⟩, ?_⟩
      show bl s = numZ n ++ bl (ofL l)
      rw [his, bl_ofL]; rfl
def Tx (most : Int) (s : ByteArray) : Prop := (s.size : Int) ≤ most
def textZ (s : ByteArray) : List UInt8 := textL (bl s)
theorem tells_tx {most : Int} (h : most ≤ 1000000) : Tells (Tx most) textZ := Tells.sub tells_text fun x (hx : (x.size : Int) ≤ most) => by omega
theorem red_text (r : Rd) (most : Int) (hm : most ≤ 1000000) : Red (Tx most) textZ r (r.text most).1 (r.text most).2 := by
  have hi := red_int r most (by omega)
  unfold Rd.text
  obtain ⟨q, hq⟩ := nm (r.int most).1
  obtain ⟨n, hn⟩ := nm (r.int most).2
  rw [← hq.out, ← hn.out] at hi ⊢
  have key : (q.torn = true ∨ q.left.size < n) → ∀ y t, r.torn = false → Tx most y → bl r.left ≠ textZ y ++ t := by
    intro hc y t hr hy e
    have hy2 : (y.size : Int) ≤ most := hy
    have e' : bl r.left = numZ (y.size : Int) ++ (bl y ++ t) := by
      rw [e, textZ, textL, bl_length, List.append_assoc]; rfl
    rcases hi with ⟨h1, h2, h3, h4⟩ | ⟨h1, h2⟩
    · rcases hc with hc | hc
      · rw [h1] at hc; cases hc
      · rw [h4] at e'
        obtain ⟨e1, e2⟩ := tells_in (most := most) (by omega) _ _ _ _ h3 ⟨by omega, hy2⟩ e'
        have e3 : q.left.size = y.size + t.length := by rw [← bl_length, e2, List.length_append, bl_length]
        omega
    · exact h2 (y.size : Int) _ hr ⟨by omega, hy2⟩ e'
  split
  · rename_i hc
    exact .inr ⟨rfl, key hc⟩
  · rename_i hc
    have hqt : q.torn = false := by
      cases h : q.torn with
      | false => rfl
      | true => exact absurd (.inl h) hc
    have hsz : n ≤ q.left.size := by
      rcases Nat.lt_or_ge q.left.size n with h | h
      · exact absurd (.inr h) hc
      · exact h
    obtain ⟨h1, h2, h3⟩ := hi.is hqt
    have e1 : (q.left.extract 0 n).size = n := by rw [← bl_length, bl_extract, List.drop_zero, Nat.sub_zero, List.length_take, bl_length]; omega
    refine .inl ⟨rfl, h1, by show ((q.left.extract 0 n).size : Int) ≤ most; rw [e1]; exact h2.2, ?_⟩
    rw [h3]
    show Pl.num n ++ bl q.left = (Pl.num (bl (q.left.extract 0 n)).length ++ bl (q.left.extract 0 n)) ++ bl (q.left.extract n q.left.size)
    rw [bl_length, e1, List.append_assoc, bl_extract, bl_extract, List.drop_zero, Nat.sub_zero]
    rw [List.take_of_length_le (l := (bl q.left).drop n) (by rw [List.length_drop, bl_length]; exact Nat.le_refl _), List.take_append_drop]

/-! ### Rows -/
/-- k of n were read, from q on: zs; or torn, and no n stand there. -/
def RedN {α : Type} (P : α → Prop) (f : α → List UInt8) (n : Nat) (q : Rd) (k : Nat) (r : Rd) (zs : List α) : Prop :=
  zs.length = k ∧ ((r.torn = false ∧ q.torn = false ∧ (∀ z ∈ zs, P z) ∧ bl q.left = zs.flatMap f ++ bl r.left) ∨ (r.torn = true ∧ ∀ (ys : List α) (t : List UInt8), q.torn = false → ys.length = n → (∀ y ∈ ys, P y) → bl q.left ≠ ys.flatMap f ++ t))
section
variable {α : Type} {P : α → Prop} {f : α → List UInt8} {n k : Nat} {q r r' : Rd} {zs : List α} {x : α}
theorem RedN.zero (q : Rd) : RedN P f n q 0 q [] := by
  refine ⟨rfl, ?_⟩
  cases h : q.torn with
  | false => exact .inl ⟨rfl, rfl, by simp, by simp⟩
  | true => exact .inr ⟨rfl, fun _ _ h2 => by cases h2⟩
theorem RedN.next (ht : Tells P f) (h : RedN P f n q k r zs) (hk : k < n) (g : Red P f r r' x) : RedN P f n q (k + 1) r' (zs ++ [x]) := by
  obtain ⟨hl, h⟩ := h
  refine ⟨by simp [hl], ?_⟩
  rcases h with ⟨h1, h2, h3, h4⟩ | ⟨h1, h2⟩
  · rcases g with ⟨g1, _, g3, g4⟩ | ⟨g1, g2⟩
    · refine .inl ⟨g1, h2, ?_, ?_⟩
      · intro z hz
        rcases List.mem_append.1 hz with hz | hz
        · exact h3 z hz
        · obtain rfl : z = x := by simpa using hz
          exact g3
      · rw [h4, g4, List.flatMap_append, List.append_assoc]; simp
    · refine .inr ⟨g1, fun ys t _ hy1 hy2 e => ?_⟩
      have hlt : k < ys.length := by omega
      have e1 : ys = ys.take k ++ ys[k] :: ys.drop (k + 1) := by rw [← List.drop_eq_getElem_cons hlt, List.take_append_drop]
      rw [h4, e1, List.flatMap_append, List.append_assoc] at e
      obtain ⟨_, e2⟩ := tells_many ht zs (ys.take k) _ _ (by rw [hl, List.length_take]; omega) h3 (fun y hy => hy2 y (List.mem_of_mem_take hy)) e
      rw [List.flatMap_cons, List.append_assoc] at e2
      exact g2 ys[k] _ h1 (hy2 _ (List.getElem_mem hlt)) e2
  · exact .inr ⟨g.torn h1, h2⟩
theorem RedN.red {most : Int} {r0 : Rd} (hi : Red (In most) numZ r0 q (n : Int)) (hm : most ≤ 1000000) (h : RedN P f n q n r zs) : Red (fun xs : List α => (xs.length : Int) ≤ most ∧ ∀ y ∈ xs, P y) (rowL f) r0 r zs := by
  obtain ⟨hl, h⟩ := h
  rcases h with ⟨h1, h2, h3, h4⟩ | ⟨h1, h2⟩
  · obtain ⟨i1, i2, i3⟩ := hi.is h2
    refine .inl ⟨h1, i1, ⟨by rw [hl]; exact i2.2, h3⟩, ?_⟩
    rw [i3, h4, rowL, hl, List.append_assoc]; rfl
  · refine .inr ⟨h1, fun ys t hr hy e => ?_⟩
    obtain ⟨hy1, hy2⟩ := hy
    have e' : bl r0.left = numZ (ys.length : Int) ++ (ys.flatMap f ++ t) := by rw [e, rowL, List.append_assoc]; rfl
    rcases hi with ⟨i1, i2, i3, i4⟩ | ⟨i1, i2⟩
    · rw [i4] at e'
      obtain ⟨e1, e2⟩ := tells_in (most := most) (by omega) _ _ _ _ i3 ⟨by omega, hy1⟩ e'
      exact h2 ys t i1 (by omega) hy2 e2
    · exact i2 _ _ hr ⟨by omega, hy1⟩ e'
/-- Torn on the way. -/
theorem RedN.stop {most : Int} {r0 : Rd} {z : List α} (hi : Red (In most) numZ r0 q (n : Int)) (hm : most ≤ 1000000) (h : RedN P f n q k r zs) (hr : r.torn = true) (hr' : r'.torn = true) : Red (fun xs : List α => (xs.length : Int) ≤ most ∧ ∀ y ∈ xs, P y) (rowL f) r0 r' z := by
  obtain ⟨_, h⟩ := h
  rcases h with ⟨h1, _⟩ | ⟨h1, h2⟩
  · rw [hr] at h1; cases h1
  · refine .inr ⟨hr', fun ys t hr hy e => ?_⟩
    obtain ⟨hy1, hy2⟩ := hy
    have e' : bl r0.left = numZ (ys.length : Int) ++ (ys.flatMap f ++ t) := by rw [e, rowL, List.append_assoc]; rfl
    rcases hi with ⟨i1, i2, i3, i4⟩ | ⟨i1, i2⟩
    · rw [i4] at e'
      obtain ⟨e1, e2⟩ := tells_in (most := most) (by omega) _ _ _ _ i3 ⟨by omega, hy1⟩ e'
      exact h2 ys t i1 (by omega) hy2 e2
    · exact i2 _ _ hr ⟨by omega, hy1⟩ e'
end
end Go.Proofs.Ytfpjdmplepepjaa

/-! OwnE: Rows of structs of any few cells that a call owns; append onto them. -/
namespace Go.Proofs.Ytfpjdmplepepjaa
open Go.RowKit Go.WideShapes

/-- All rows' cells, one row behind another. -/
def flatE {α : Type} (enc : α → List Value) (xs : List α) : List Value := xs.flatMap enc
/-- Each row has k cells, each of them one cell. -/
structure EncOk {α : Type} (enc : α → List Value) (k : Nat) : Prop where
  pos : 0 < k
  len : ∀ x, (enc x).length = k
  one : ∀ x, ∀ u ∈ enc x, u.oneCell' = true
section
variable {α : Type} {enc : α → List Value} {k : Nat}
theorem EncOk.flat (h : EncOk enc k) : ∀ xs : List α, (flatE enc xs).length = xs.length * k
  | [] => by simp [flatE]
  | x :: xs => by
    show (enc x ++ flatE enc xs).length = _
    rw [List.length_append, h.len, h.flat xs, List.length_cons, Nat.add_mul, Nat.one_mul, Nat.add_comm]
theorem flatE_append (xs ys : List α) : flatE enc (xs ++ ys) = flatE enc xs ++ flatE enc ys := by simp [flatE]
theorem EncOk.flat_one (h : EncOk enc k) (xs : List α) : ∀ u ∈ flatE enc xs, u.oneCell' = true := by
  intro u hu
  obtain ⟨x, _, hx⟩ := List.mem_flatMap.1 hu
  exact h.one x u hx
theorem EncOk.get (h : EncOk enc k) : ∀ (xs : List α) (j : Nat) (x : α) (c : Nat) (u : Value), xs[j]? = some x → (enc x)[c]? = some u → (flatE enc xs)[j * k + c]? = some u
  | [], j, x, c, u, h1, _ => by simp at h1
  | y :: ys, 0, x, c, u, h1, h2 => by
    obtain rfl : y = x := by simpa using h1
    show (enc y ++ flatE enc ys)[0 * k + c]? = _
    rw [Nat.zero_mul, Nat.zero_add]
    have hc : c < (enc y).length := by
      rcases Nat.lt_or_ge c (enc y).length with g | g
      · exact g
      · rw [List.getElem?_eq_none g] at h2; cases h2
    rw [List.getElem?_append_left hc]; exact h2
  | y :: ys, j + 1, x, c, u, h1, h2 => by
    have := h.get ys j x c u (by simpa using h1) h2
    show (enc y ++ flatE enc ys)[(j + 1) * k + c]? = _
    rw [List.getElem?_append_right (by rw [h.len, Nat.add_mul, Nat.one_mul]; omega), h.len, Nat.add_mul, Nat.one_mul, show j * k + k + c - k = j * k + c from by omega]
    exact this
theorem EncOk.at (h : EncOk enc k) : ∀ (xs : List α) (i : Nat) (u : Value), (flatE enc xs)[i]? = some u → ∃ x, xs[i / k]? = some x ∧ (enc x)[i % k]? = some u
  | [], i, u, h1 => by simp [flatE] at h1
  | y :: ys, i, u, h1 => by
    change (enc y ++ flatE enc ys)[i]? = _ at h1
    have hp := h.pos
    rcases Nat.lt_or_ge i k with g | g
    · rw [List.getElem?_append_left (by rw [h.len]; exact g)] at h1
      exact ⟨y, by rw [Nat.div_eq_of_lt g]; rfl, by rw [Nat.mod_eq_of_lt g]; exact h1⟩
    · rw [List.getElem?_append_right (by rw [h.len]; exact g), h.len] at h1
      obtain ⟨x, g1, g2⟩ := h.at ys (i - k) u h1
      refine ⟨x, ?_, ?_⟩
      · rw [Nat.div_eq_sub_div hp g]
        simpa using g1
      · rw [Nat.mod_eq_sub_mod g]; exact g2
theorem SlE.ofBlk (h : EncOk enc k) {w : World} {b : Nat} {t : TypeId} {xs : List α} (hb : Blk w b (flatE enc xs).toArray t) : SlE enc k w (some ⟨b, 0, none⟩) xs := by
  intro i _
  refine ⟨b, 0, rfl, hb.lt, fun j x hj c u hu => ?_⟩
  rw [hb.cell, Nat.zero_add]
  simpa using h.get xs j x c u hj hu
theorem SlE.none_len {w : World} {xs : List α} (h : SlE enc k w none xs) : xs.length = 0 := by
  rcases Nat.eq_zero_or_pos xs.length with h0 | h0
  · exact h0
  · obtain ⟨b, off, h1, _⟩ := h 0 h0; cases h1
/-- The cells of a row, as an append wants them. -/
theorem SlE.news (h : EncOk enc k) {w : World} {a : Addr} {xs : List α} (hs : SlE enc k w (some a) xs) : ∀ j u, (flatE enc xs)[j]? = some u → w.cell? (a.add j) = some u := by
  intro j u hj
  obtain ⟨x, g1, g2⟩ := h.at xs j u hj
  have hlt : j / k < xs.length := by
    rcases Nat.lt_or_ge (j / k) xs.length with g | g
    · exact g
    · rw [List.getElem?_eq_none g] at g1; cases g1
  obtain ⟨b, off, e, _, hc⟩ := hs (j / k) hlt
  cases e
  rw [add_plain]
  have := hc _ x g1 _ u g2
  rwa [Nat.add_assoc, Nat.div_add_mod'] at this

/-- A row that a call owns. -/
def OwnE (enc : α → List Value) (k : Nat) (w : World) (base : Nat) (t : TypeId) (v : Value) (xs : List α) : Prop := w.ownsRow base t k v xs.length (flatE enc xs)
theorem OwnE.nil (w : World) (base : Nat) (t : TypeId) : OwnE enc k w base t (.slice none 0 0) [] := ⟨by simp [flatE], .inl ⟨rfl, rfl⟩⟩
theorem OwnE.sl (h : EncOk enc k) {w : World} {base : Nat} {t : TypeId} {v : Value} {xs : List α} (ho : OwnE enc k w base t v xs) :
    ∃ ao cap, v = .slice ao xs.length cap ∧ xs.length ≤ cap ∧ cap ≤ maxLen ∧ SlE enc k w ao xs ∧ (ao = none → cap = 0) ∧ ∀ a, ao = some a → base ≤ a.block := by
  rcases ho.2 with ⟨rfl, h0⟩ | ⟨g, cap, cur, rfl, hb, hg, hc, hm, _, ht⟩
  · exact ⟨none, 0, by rw [h0], by omega, Nat.zero_le _, (fun i hi => by omega), fun _ => rfl, fun a ha => by cases ha⟩
  · refine ⟨some ⟨g, 0, none⟩, cap, rfl, hc, hm, (fun i _ => ⟨g, 0, rfl, lt_of_block hg, fun j x hj c u hu => ?_⟩), fun e => (by cases e), fun a ha => by cases ha; exact hb⟩
    have e1 := h.get xs j x c u hj hu
    have hlt : j * k + c < xs.length * k := by
      rcases Nat.lt_or_ge (j * k + c) (xs.length * k) with g | g
      · exact g
      · rw [List.getElem?_eq_none (by rw [h.flat]; exact g)] at e1; cases e1
    rw [← ht, List.getElem?_take, if_pos hlt] at e1
    rw [Nat.zero_add]
    simp only [Array.getElem?_toList] at e1
    simp [World.cell?, hg, e1]
theorem OwnE.alloc {w : World} {base : Nat} {t : TypeId} {v : Value} {xs : List α} (h : OwnE enc k w base t v xs) (o : Obj) : OwnE enc k (w.alloc o) base t v xs := World.ownsRow.alloc h o
theorem OwnE.below {w w' : World} {base : Nat} {t : TypeId} {v : Value} {xs : List α} (h : OwnE enc k w base t v xs) (hb : Below w.heap.size w w') : OwnE enc k w' base t v xs := own_below h hb
theorem OwnE.drew {w : World} {base : Nat} {t : TypeId} {v : Value} {xs : List α} (h : OwnE enc k w base t v xs) : OwnE enc k w.drew base t v xs := h
theorem OwnE.keptBy {w w' : World} {base : Nat} {t : TypeId} {v : Value} {xs : List α} {row : Option Nat} (h : OwnE enc k w base t v xs) (hg : w.grownBy w' row) (hr : v.ownBlock = none ∨ v.ownBlock ≠ row) : OwnE enc k w' base t v xs := World.ownsRow.kept h hg hr
theorem OwnE.kept {b base : Nat} {w w' : World} {t : TypeId} {v : Value} {xs : List α} (h : OwnE enc k w base t v xs) (hk : Kept b w w') (hb : b < base) : OwnE enc k w' base t v xs := by
  have hg : w.grownBy w' (some b) := ⟨hk.os, hk.tape, hk.output, hk.size, fun i hi hne => hk.block i hi (fun e => hne (by rw [e]))⟩
  refine h.keptBy hg ?_
  cases hv : v.ownBlock with
  | none => exact .inl rfl
  | some g =>
    right
    intro e
    have := (World.ownsRow.lt h g hv).1
    cases e
    omega
theorem OwnE.grownK {b base : Nat} {w a c : World} {t : TypeId} {v : Value} {xs : List α} (h : OwnE enc k a base t v xs) (hk : Kept b w a) (hb : w.heap.size ≤ base) (hg : a.grownBy c v.ownBlock) : Kept b w c :=
  ⟨hg.os.trans hk.os, hg.tape.trans hk.tape, hg.output.trans hk.output, Nat.le_trans hk.size hg.size, fun i hi hne => by
    rw [hg.block i (Nat.lt_of_lt_of_le hi hk.size) (by intro e; have := (World.ownsRow.lt h i e.symm).1; omega)]
    exact hk.block i hi hne⟩
theorem OwnE.grownB {base : Nat} {w a b : World} {t : TypeId} {v : Value} {xs : List α} (hown : OwnE enc k a base t v xs) (hB : Below w.heap.size w a) (hb : w.heap.size ≤ base) (hg : a.grownBy b v.ownBlock) : Below w.heap.size w b :=
  hB.grown hg hB.size (fun i hi => Nat.le_trans hb (World.ownsRow.lt hown i hi).1)
theorem OwnE.blk {a c : World} {base i : Nat} {cs : Array Value} {t t' : TypeId} {v : Value} {xs : List α} (h : OwnE enc k a base t v xs) (hb : Blk a i cs t') (hk : i < base) (hg : a.grownBy c v.ownBlock) : Blk c i cs t' :=
  (hg.block i hb.lt (by intro e; have := (World.ownsRow.lt h i e.symm).1; omega)).trans hb

/-- append of rows onto a row that a call owns. -/
theorem app_E (h : EncOk enc k) {st t : TypeId} {z : Value} {bytes : Nat} (hu : Try.prog.underlying st = some (.slice t)) (hinfo : (Try.prog.info? t).map (fun i => (i.zero, i.size, i.bytes)) = some (some z, k, bytes)) (hz : z.cells.size = k) (hby : bytes ≤ 64)
    {w : World} {ops : Array Oper} {rest : List Oper} {o : Oper} {a : Act} {Q : Exit → Act → World → Prop} (hgd : o.guard = none) (s x : Operand)
    (ho : o.op = .call { callee := .builtin .append, args := #[s, x], argTypes := #[st, st] })
    (base : Nat) (v : Value) (xs : List α) (hs : a.eval s = v) (hown : OwnE enc k w base t v xs)
    (ao : Option Addr) (m c : Nat) (ys : List α) (hx : a.eval x = .slice ao m c) (hq : ys.length = m) (hc : ao = none → c = 0) (hsl : SlE enc k w ao ys) (hb : xs.length + m ≤ 1000000000) (hbase : base ≤ w.heap.size)
    (hn : ∀ v' w', OwnE enc k w' base t v' (xs ++ ys) → w.grownBy w' v.ownBlock → wpList Try.prog ops Q rest (a.put o.dst v') w') : wpList Try.prog ops Q (o :: rest) a w := by
  obtain ⟨i0, hi, hz0, hz1, hz2⟩ := info_parts hinfo
  cases ao with
  | none =>
    have h0 := hsl.none_len
    obtain rfl := hc rfl
    obtain rfl : m = 0 := hq.symm.trans h0
    obtain rfl := List.length_eq_zero_iff.1 h0
    refine wpList_append_own_none hgd s x _ ho base t i0 k hu hi v xs.length (flatE enc xs) hs hown hx ?_
    exact hn v w (by rw [List.append_nil]; exact hown) ⟨rfl, rfl, rfl, Nat.le_refl _, fun _ _ _ => rfl⟩
  | some ad =>
    have h2 : (xs.length + m) * bytes ≤ 140737488355328 := Nat.le_trans (Nat.mul_le_mul hb hby) (by decide)
    refine wpList_append_own w hgd s x _ ho base t i0 _ k bytes hu hi hz0 hz1 hz2 hz h.pos v xs.length (flatE enc xs) hs hown ad m c (flatE enc ys) hx (by rw [h.flat, hq]) (hsl.news h) (h.flat_one ys) (by unfold maxLen; omega) h2 hbase ?_
    intro v' w' h1 h2 _
    refine hn v' w' ?_ h2
    show w'.ownsRow _ _ _ _ _ _
    rw [flatE_append, List.length_append, hq]
    exact h1
end
end Go.Proofs.Ytfpjdmplepepjaa

/-! WRead: Names and rows of names are read: the program's. -/
namespace Go.Proofs.Ytfpjdmplepepjaa
open Go.RowKit Go.Sort
theorem Rd.num_torn (r : Rd) (h : r.num.1.torn = true) : r.num.2 = 0 := by
  unfold Rd.num at h ⊢
  split at h
  · rename_i ht; rw [if_pos ht]
  · rename_i ht
    rw [if_neg ht]
    split at h
    · cases h
    · rfl
theorem Rd.int_torn0 (r : Rd) (m : Int) (h : (r.int m).1.torn = true) : (r.int m).2 = 0 := by
  unfold Rd.int at h ⊢
  split at h
  · rename_i hc; rw [if_pos hc]
  · rename_i hc; rw [if_neg hc]; exact r.num_torn h

theorem infoD : (Try.prog.info? 31).map (fun i => (i.zero, i.size, i.bytes)) = some (some (.agg #[.int .i64 0, .int .i64 0]), 2, 16) := by kernel_rfl

theorem SlP.newsA {w : World} {a : Addr} {ps : List (Int × Int)} (h : SlP w (some a) ps) : ∀ j u, (flatD ps)[j]? = some u → w.cell? (a.add j) = some u := by
  intro j u hj
  by_cases h0 : ps.length = 0
  · rw [List.length_eq_zero_iff.1 h0] at hj; simp [flatD] at hj
  · obtain ⟨b, off, h1, _⟩ := h 0 (by omega)
    cases h1
    exact h.news j u hj

theorem SlP.ofBlk {w : World} {b : Nat} {t : TypeId} {ps : List (Int × Int)} (h : Blk w b (flatD ps).toArray t) : SlP w (some ⟨b, 0, none⟩) ps := by
  intro k _
  refine ⟨b, 0, rfl, h.lt, fun j p hj => ?_⟩
  obtain ⟨g0, g1⟩ := flatD_get ps j p hj
  rw [h.cell, h.cell, Nat.zero_add]
  simp only [List.getElem?_toArray]
  exact ⟨g0, g1⟩
theorem app_pairs {w : World} {ops : Array Oper} {rest : List Oper} {o : Oper} {a : Act} {Q : Exit → Act → World → Prop} (hgd : o.guard = none) (s x : Operand)
    (ho : o.op = .call { callee := .builtin .append, args := #[s, x], argTypes := #[23, 23] })
    (base : Nat) (v : Value) (ps : List (Int × Int)) (hs : a.eval s = v) (hown : OwnP w base 31 v ps)
    (ao : Option Addr) (m c : Nat) (qs : List (Int × Int)) (hx : a.eval x = .slice ao m c) (hq : qs.length = m) (hc : ao = none → c = 0) (hsl : SlP w ao qs) (hb : ps.length + m ≤ 1000000000) (hbase : base ≤ w.heap.size)
    (h : ∀ v' w', OwnP w' base 31 v' (ps ++ qs) → w.grownBy w' v.ownBlock → wpList Try.prog ops Q rest (a.put o.dst v') w') : wpList Try.prog ops Q (o :: rest) a w := by
  obtain ⟨i0, hi, hz0, hz1, hz2⟩ := info_parts infoD
  cases ao with
  | none =>
    have h0 := hsl.none_len
    obtain rfl := hc rfl
    obtain rfl : m = 0 := hq.symm.trans h0
    obtain rfl := List.length_eq_zero_iff.1 h0
    refine wpList_append_own_none hgd s x _ ho base 31 i0 2 Try.underlying23 hi v ps.length (flatD ps) hs hown hx ?_
    refine h v w (by rw [List.append_nil]; exact hown) ⟨rfl, rfl, rfl, Nat.le_refl _, fun _ _ _ => rfl⟩
  | some ad =>
    refine wpList_append_own w hgd s x _ ho base 31 i0 _ 2 16 Try.underlying23 hi hz0 hz1 hz2 rfl (by decide) v ps.length (flatD ps) hs hown ad m c (flatD qs) hx (by rw [flatD_length, hq]) hsl.newsA (flatD_cell qs) (by unfold maxLen; omega) (by omega) hbase ?_
    intro v' w' h1 h2 _
    refine h v' w' ?_ h2
    show w'.ownsRow _ _ _ _ _ _
    rw [flatD_append, List.length_append, hq]
    exact h1
theorem OwnP.cap0 {w : World} {base : Nat} {t : TypeId} {ao : Option Addr} {n cap : Nat} {ps : List (Int × Int)} (h : OwnP w base t (.slice ao n cap) ps) : ao = none → cap = 0 := by
  rintro rfl
  rcases h.2 with ⟨h1, _⟩ | ⟨g, cap', cur, h1, _⟩
  · cases h1; rfl
  · cases h1


/-- A name is read. -/
def Rd.dot (r : Rd) : Rd × (Int × Int) :=
  if ((r.int 1099511627776).1.int 1099511627776).1.torn = true ∨ okD (r.int 1099511627776).2 ((r.int 1099511627776).1.int 1099511627776).2 = false then (⟨((r.int 1099511627776).1.int 1099511627776).1.left, true⟩, (0, 0))
  else (((r.int 1099511627776).1.int 1099511627776).1, ((r.int 1099511627776).2, ((r.int 1099511627776).1.int 1099511627776).2))

set_option maxRecDepth 100000 in
set_option maxHeartbeats 400000 in
theorem torn_any (b : Nat) (r : Rd) (w : World) (hr : IsRd w b r) (hs : r.left.size ≤ 4611686018427387904) :
    Calls Try.prog 106 #[.pointer (some ⟨b, 0, none⟩)] w fun e w' => e = .returned (.tuple #[]) ∧ IsRd w' b (r.int (-1)).1 ∧ Kept b w w' := by
  go_enter Try.func106, Try.ntmps106
  go_wp2_with fail
  refine (rint_any b r (-1) _ hr hs (by decide)).mono ?_; rintro e w1 ⟨rfl, h1, h2⟩
  go_wp2_with fail
  go_end0
  exact ⟨rfl, h1, h2⟩
theorem Rd.int_neg (r : Rd) : (r.int (-1)).1.torn = true ∧ (r.int (-1)).1.left.size ≤ r.left.size := by
  unfold Rd.int
  rw [if_pos (.inl (by decide))]
  exact ⟨rfl, r.num_lt.2⟩

theorem fine_is' (T : Bool) (b : Nat) (r : Rd) (hT : Hid (T = r.torn)) (w : World) (hr : IsRd w b r) :
    Calls Try.prog 78 #[.pointer (some ⟨b, 0, none⟩)] w fun e w' => e = .returned (.bool (!T)) ∧ w = w' := by rw [hT.out]; exact fine_any b r w hr

/-- What dot.Read tells. -/
def DotTells (b : Nat) (r : Rd) (w : World) (e : Ending) (w' : World) : Prop :=
  e = .returned (.agg #[.int .i64 r.dot.2.1, .int .i64 r.dot.2.2]) ∧ (∃ r', IsRd w' b r' ∧ r'.torn = r.dot.1.torn ∧ (r.dot.1.torn = false → r' = r.dot.1) ∧ r'.left.size ≤ r.left.size) ∧ Kept b w w'

set_option maxRecDepth 100000 in
set_option maxHeartbeats 2000000 in
theorem rdot_any (b : Nat) (r : Rd) (w : World) (hr : IsRd w b r) (hs : r.left.size ≤ 1000000) :
    Calls Try.prog 81 #[.pointer (some ⟨b, 0, none⟩)] w (DotTells b r w) := by
  have hbl := hr.lt
  obtain ⟨i1, i2, i3⟩ := r.int_lt 1099511627776
  obtain ⟨j1, j2, j3⟩ := (r.int 1099511627776).1.int_lt 1099511627776
  obtain ⟨d, hd⟩ := nm r.dot
  have hd2 := hd.out
  unfold Rd.dot at hd2
  obtain ⟨q1, hq1⟩ := nm (r.int 1099511627776).1
  obtain ⟨n1, hn1⟩ := nm (r.int 1099511627776).2
  rw [← hq1.out] at hd2 i2 j1 j2 j3
  rw [← hn1.out] at hd2 i1 i3
  obtain ⟨q2, hq2⟩ := nm (q1.int 1099511627776).1
  obtain ⟨n2, hn2⟩ := nm (q1.int 1099511627776).2
  rw [← hq2.out] at hd2 j2
  rw [← hn2.out] at hd2 j1 j3
  have hD := Lib.hid hd2
  clear hd2
  have n1b : n1 ≤ 1099511627776 := by omega
  have n2b : n2 ≤ 1099511627776 := by omega
  obtain ⟨T, hT⟩ := nm q2.torn
  obtain ⟨C, hC⟩ := nm (okD (n1 : Int) (n2 : Int))
  have fin : ∀ (w' : World) (r' : Rd) (x y : Int), d.2 = (x, y) → IsRd w' b r' → r'.torn = d.1.torn → (d.1.torn = false → r' = d.1) → r'.left.size ≤ r.left.size → Kept b w w' → DotTells b r w (.returned (.agg #[.int .i64 x, .int .i64 y])) w' := by
    intro w' r' x y e1 h1 h2 h3 h4 h5
    refine ⟨by rw [← hd.out, e1], ⟨r', h1, ?_, ?_, h4⟩, h5⟩
    · rw [← hd.out]; exact h2
    · rw [← hd.out]; exact h3
  have FIN := Lib.hid fin
  clear fin i3 j3
  have bR0 : Blk (w.alloc (.cells #[.int .i64 0, .int .i64 0] 31)) w.heap.size #[.int .i64 0, .int .i64 0] 31 := Blk.new _ _ _
  have k0 : Kept b w (w.alloc (.cells #[.int .i64 0, .int .i64 0] 31)) := (Kept.refl b w).alloc _
  have h0 : IsRd (w.alloc (.cells #[.int .i64 0, .int .i64 0] 31)) b r := hr.alloc _
  have s0 : (w.alloc (.cells #[.int .i64 0, .int .i64 0] 31)).heap.size = w.heap.size + 1 := by simp
  obtain ⟨w0, hw0⟩ := nm (w.alloc (.cells #[.int .i64 0, .int .i64 0] 31))
  rw [← hw0.out] at bR0 k0 h0 s0
  obtain ⟨R, hR⟩ := nm w.heap.size
  rw [← hR.out] at bR0 s0 hbl
  go_enter Try.func81, Try.ntmps81
  go_wp2_with fail
  rw [← hR.out, ← hw0.out]
  refine (rint_any b r 1099511627776 _ h0 (by omega) (by decide)).mono ?_; rintro e w1 ⟨rfl, h1, k1⟩
  rw [← hq1.out] at h1
  rw [← hn1.out]
  have bR1 := k1.blk bR0 (by omega)
  have k01 := k0.trans k1
  have s1 := k1.size
  have bD1 : Blk (w1.alloc (.cells #[.int .i64 (n1 : Int), .int .i64 0] 31)) w1.heap.size #[.int .i64 (n1 : Int), .int .i64 0] 31 := Blk.new _ _ _
  have bR2 := bR1.alloc (.cells #[.int .i64 (n1 : Int), .int .i64 0] 31)
  have h1a : IsRd (w1.alloc (.cells #[.int .i64 (n1 : Int), .int .i64 0] 31)) b q1 := h1.alloc _
  have k02 := k01.alloc (.cells #[.int .i64 (n1 : Int), .int .i64 0] 31)
  clear bR0 k0 h0 k1 k01 bR1 h1
  go_wp2_with fail
  obtain ⟨D, hDn⟩ := nm w1.heap.size
  obtain ⟨w2, hw2⟩ := nm (w1.alloc (.cells #[.int .i64 (n1 : Int), .int .i64 0] 31))
  rw [← hw2.out] at bD1 bR2 h1a k02 ⊢
  rw [← hDn.out] at bD1 s1 ⊢
  refine (rint_any b q1 1099511627776 _ h1a (by omega) (by decide)).mono ?_; rintro e w3 ⟨rfl, h3, k3⟩
  rw [← hq2.out] at h3
  rw [← hn2.out]
  have bD3 := k3.blk bD1 (by omega)
  have bR3 := k3.blk bR2 (by omega)
  have k03 := k02.trans k3
  have cD : w3.cell? ⟨D, 1, none⟩ = some (.int .i64 0) := bD3.cell 1
  have fD : w3.frozen? ⟨D, 1, none⟩ = false := bD3.free 1
  have bD4 : Blk (w3.setCell ⟨D, 1, none⟩ (.int .i64 (n2 : Int))) D #[.int .i64 (n1 : Int), .int .i64 (n2 : Int)] 31 := bD3.set 1 _
  have bR4 : Blk (w3.setCell ⟨D, 1, none⟩ (.int .i64 (n2 : Int))) R #[.int .i64 0, .int .i64 0] 31 := bR3.setOther (by show R ≠ D; omega) _
  have h4 : IsRd (w3.setCell ⟨D, 1, none⟩ (.int .i64 (n2 : Int))) b q2 := Blk.setOther h3 (by show b ≠ D; omega) _
  have k04 : Kept b w (w3.setCell ⟨D, 1, none⟩ (.int .i64 (n2 : Int))) := k03.setNew (by show w.heap.size ≤ D; rw [← hR.out]; omega) _
  clear bD1 bR2 h1a k02 k3 bD3 bR3 k03 h3
  go_wp2_with fail
  clear cD fD
  obtain ⟨w4, hw4⟩ := nm (w3.setCell ⟨D, 1, none⟩ (.int .i64 (n2 : Int)))
  rw [← hw4.out] at bD4 bR4 h4 k04 ⊢
  refine (fine_is' T b q2 hT w4 h4).mono ?_; rintro e w5 ⟨rfl, rfl⟩
  have FR : Hid (∀ w' : World, Kept b w4 w' → Blk w' R #[.int .i64 0, .int .i64 0] 31) := fun w' h => h.blk bR4 (by omega)
  have hdb : D < w4.heap.size := bD4.lt
  have hrb : R < w4.heap.size := bR4.lt
  have hb4 : b < w4.heap.size := h4.lt
  cases T
  rotate_left
  · have e1 : d = (⟨q2.left, true⟩, (0, 0)) := by rw [hD.out, if_pos (.inl hT.out.symm)]
    have E1 := Lib.hid e1
    clear e1
    go_wp2_with fail
    refine (torn_any b q2 _ h4 (by omega)).mono ?_; rintro e w6 ⟨rfl, h6, k6⟩
    have bR6 := FR.out _ k6
    have c0 : w6.cell? ⟨R, 0, none⟩ = some (.int .i64 0) := bR6.cell 0
    have c1 : w6.cell? ⟨R, 1, none⟩ = some (.int .i64 0) := bR6.cell 1
    have f0 : w6.frozen? ⟨R, 0, none⟩ = false := bR6.free 0
    have f1 : w6.frozen? ⟨R, 1, none⟩ = false := bR6.free 1
    obtain ⟨t1, t2⟩ := q2.int_neg
    go_wp2_with fail
    refine bodyPost_ret (v := .agg #[.int .i64 0, .int .i64 0]) (by simp [results, Try.results81, go_sem, c0, c1]) rfl ?_
    refine FIN.out _ (q2.int (-1)).1 0 0 (by rw [E1.out]) (Blk.setOther (Blk.setOther h6 (by show b ≠ R; omega) _) (by show b ≠ R; omega) _) (by rw [E1.out, t1]) (by rw [E1.out]; intro h; cases h) (by omega) ?_
    exact ((k04.trans k6).setNew (by show w.heap.size ≤ R; rw [← hR.out]; omega) _).setNew (by show w.heap.size ≤ R; rw [← hR.out]; omega) _
  have g0 : w4.cell? ⟨D, 0, none⟩ = some (.int .i64 (n1 : Int)) := bD4.cell 0
  have g1 : w4.cell? ⟨D, 1, none⟩ = some (.int .i64 (n2 : Int)) := bD4.cell 1
  go_wp2_with fail
  refine (check_any (n1 : Int) (n2 : Int) C hC _).mono ?_; rintro e w5 ⟨rfl, hB5⟩
  clear g0 g1
  have h5 : IsRd w5 b q2 := Blk.below h4 hB5 hb4
  have bD5 := bD4.below hB5 hdb
  have bR5 := bR4.below hB5 hrb
  have k05 := k04.trans (Kept.ofBelow hB5)
  have c0 : w5.cell? ⟨R, 0, none⟩ = some (.int .i64 0) := bR5.cell 0
  have c1 : w5.cell? ⟨R, 1, none⟩ = some (.int .i64 0) := bR5.cell 1
  have f0 : w5.frozen? ⟨R, 0, none⟩ = false := bR5.free 0
  have f1 : w5.frozen? ⟨R, 1, none⟩ = false := bR5.free 1
  have g0 : w5.cell? ⟨D, 0, none⟩ = some (.int .i64 (n1 : Int)) := bD5.cell 0
  have g1 : w5.cell? ⟨D, 1, none⟩ = some (.int .i64 (n2 : Int)) := bD5.cell 1
  cases C
  · have e1 : d = (⟨q2.left, true⟩, (0, 0)) := by rw [hD.out, if_pos (.inr hC.out.symm)]
    have E1 := Lib.hid e1
    clear e1 c0 c1 f0 f1 g0 g1
    go_wp2_with fail
    refine (torn_any b q2 _ h5 (by omega)).mono ?_; rintro e w6 ⟨rfl, h6, k6⟩
    have bR6 := k6.blk bR5 (by omega)
    have c0 : w6.cell? ⟨R, 0, none⟩ = some (.int .i64 0) := bR6.cell 0
    have c1 : w6.cell? ⟨R, 1, none⟩ = some (.int .i64 0) := bR6.cell 1
    have f0 : w6.frozen? ⟨R, 0, none⟩ = false := bR6.free 0
    have f1 : w6.frozen? ⟨R, 1, none⟩ = false := bR6.free 1
    obtain ⟨t1, t2⟩ := q2.int_neg
    go_wp2_with fail
    refine bodyPost_ret (v := .agg #[.int .i64 0, .int .i64 0]) (by simp [results, Try.results81, go_sem, c0, c1]) rfl ?_
    refine FIN.out _ (q2.int (-1)).1 0 0 (by rw [E1.out]) (Blk.setOther (Blk.setOther h6 (by show b ≠ R; omega) _) (by show b ≠ R; omega) _) (by rw [E1.out, t1]) (by rw [E1.out]; intro h; cases h) (by omega) ?_
    exact ((k05.trans k6).setNew (by show w.heap.size ≤ R; rw [← hR.out]; omega) _).setNew (by show w.heap.size ≤ R; rw [← hR.out]; omega) _
  · have e1 : d = (q2, ((n1 : Int), (n2 : Int))) := by rw [hD.out, if_neg (by rw [← hT.out, ← hC.out]; simp)]
    have E1 := Lib.hid e1
    clear e1
    go_wp2_with fail
    refine bodyPost_ret (v := .agg #[.int .i64 (n1 : Int), .int .i64 (n2 : Int)]) (by simp [results, Try.results81, go_sem, c0, c1]) rfl ?_
    refine FIN.out _ q2 n1 n2 (by rw [E1.out]) (Blk.setOther (Blk.setOther h5 (by show b ≠ R; omega) _) (by show b ≠ R; omega) _) (by rw [E1.out]) (by rw [E1.out]; intro h; rfl) (by omega) ?_
    exact (k05.setNew (by show w.heap.size ≤ R; rw [← hR.out]; omega) _).setNew (by show w.heap.size ≤ R; rw [← hR.out]; omega) _


/-- So many names are read. -/
def Rd.dots : Nat → Rd → Rd × Option (List (Int × Int))
  | 0, r => (r, some [])
  | k + 1, r => if r.dot.1.torn then (r.dot.1, none) else ((Rd.dots k r.dot.1).1, (Rd.dots k r.dot.1).2.map (r.dot.2 :: ·))
/-- A row is read. -/
def Rd.row (r : Rd) (most : Int) : Rd × List (Int × Int) :=
  match Rd.dots (r.int most).2 (r.int most).1 with
  | (q, some l) => if q.torn = true ∨ ¬ Asc l then (⟨q.left, true⟩, []) else (q, l)
  | (q, none) => (⟨q.left, true⟩, [])

theorem Rd.dot_uses (r : Rd) (h : r.dot.1.torn = false) : r.torn = false ∧ r.dot.1.left.size + 1 ≤ r.left.size := by
  unfold Rd.dot at h ⊢
  split at h
  · cases h
  · rename_i hc
    rw [if_neg hc]
    simp only at h ⊢
    obtain ⟨h1, h2⟩ := Rd.int_uses _ _ h
    obtain ⟨h3, h4⟩ := Rd.int_uses _ _ h1
    exact ⟨h3, by omega⟩
theorem Kept.own {b base : Nat} {w w' : World} {t : TypeId} {v : Value} {ps : List (Int × Int)} (hk : Kept b w w') (h : OwnP w base t v ps) (hb : b < base) : OwnP w' base t v ps := by
  have hg : w.grownBy w' (some b) := ⟨hk.os, hk.tape, hk.output, hk.size, fun k hk' hne => hk.block k hk' (fun e => hne (by rw [e]))⟩
  refine h.kept hg ?_
  cases hv : v.ownBlock with
  | none => exact .inl rfl
  | some g =>
    right
    intro e
    have := (World.ownsRow.lt h g hv).1
    cases e
    omega
theorem Kept.grownP {b base : Nat} {w a c : World} {t : TypeId} {v : Value} {ps : List (Int × Int)} (hk : Kept b w a) (h : OwnP a base t v ps) (hb : w.heap.size ≤ base) (hg : a.grownBy c v.ownBlock) : Kept b w c :=
  ⟨hg.os.trans hk.os, hg.tape.trans hk.tape, hg.output.trans hk.output, Nat.le_trans hk.size hg.size, fun k hk' hne => by
    rw [hg.block k (Nat.lt_of_lt_of_le hk' hk.size) (by intro e; have := (World.ownsRow.lt h k e.symm).1; omega)]
    exact hk.block k hk' hne⟩
theorem Blk.grownP {a c : World} {base k : Nat} {cs : Array Value} {t t' : TypeId} {v : Value} {ps : List (Int × Int)} (hb : Blk a k cs t') (h : OwnP a base t v ps) (hk : k < base) (hg : a.grownBy c v.ownBlock) : Blk c k cs t' :=
  (hg.block k hb.lt (by intro e; have := (World.ownsRow.lt h k e.symm).1; omega)).trans hb

theorem rises_is (ao : Option Addr) (ps : List (Int × Int)) (n cap : Nat) (hn : Hid (ps.length = n)) (hm : n ≤ 1000000000) (r : Bool) (hr : Hid (r = decide (Asc ps))) (w : World) (hs : SlP w ao ps) :
    Calls Try.prog 98 #[.slice ao n cap] w fun e w' => e = .returned (.bool r) ∧ Below w.heap.size w w' := rises_any ao ps n cap hn hm w hs r hr

/-- What dot.ReadRow tells. -/
def RowTells (b : Nat) (r : Rd) (most : Int) (w : World) (e : Ending) (w' : World) : Prop :=
  ∃ ao cap, e = .returned (.slice ao (r.row most).2.length cap) ∧ (SlP w' ao (r.row most).2 ∧ ∀ a, ao = some a → w.heap.size ≤ a.block) ∧ (∃ r', IsRd w' b r' ∧ r'.torn = (r.row most).1.torn ∧ ((r.row most).1.torn = false → r' = (r.row most).1) ∧ r'.left.size ≤ 1000000) ∧ Kept b w w'

set_option maxRecDepth 100000 in
set_option maxHeartbeats 4000000 in
theorem readrow_any (b : Nat) (r : Rd) (most : Int) (w : World) (hr : IsRd w b r) (hs : r.left.size ≤ 1000000) (hm : most ≤ 9223372036854775807) :
    Calls Try.prog 105 #[.pointer (some ⟨b, 0, none⟩), .int .i64 most] w (RowTells b r most w) := by
  have hbl := hr.lt
  obtain ⟨i1, i2, i3⟩ := r.int_lt most
  have iu := r.int_uses most
  obtain ⟨q, hq⟩ := nm (r.int most).1
  obtain ⟨n, hn⟩ := nm (r.int most).2
  obtain ⟨d, hd⟩ := nm (r.row most)
  have hd2 := hd.out
  unfold Rd.row at hd2
  rw [← hq.out, ← hn.out] at hd2
  rw [← hq.out] at i2 iu
  rw [← hn.out] at i1 i3
  have hn63 : n ≤ 9223372036854775807 := by omega
  have i4 : n ≠ 0 → q.torn = false := by
    intro h
    cases hqt : q.torn with
    | false => rfl
    | true =>
      exfalso; apply h
      rw [hn.out]
      exact r.int_torn0 most (by rw [← hq.out]; exact hqt)
  have HD := Lib.hid hd2
  have fin : ∀ (w' : World) (r' : Rd) (ao : Option Addr) (cap m : Nat), d.2.length = m → (SlP w' ao d.2 ∧ ∀ a, ao = some a → w.heap.size ≤ a.block) → IsRd w' b r' → r'.torn = d.1.torn → (d.1.torn = false → r' = d.1) → Kept b w w' → r'.left.size ≤ 1000000 → RowTells b r most w (.returned (.slice ao m cap)) w' := by
    intro w' r' ao cap m e1 hsl h1 h2 h3 h5 h6
    refine ⟨ao, cap, by rw [← hd.out, e1], by rw [← hd.out]; exact hsl, ⟨r', h1, ?_, ?_, h6⟩, h5⟩
    · rw [← hd.out]; exact h2
    · rw [← hd.out]; exact h3
  have FIN := Lib.hid fin
  have I4 := Lib.hid i4
  clear fin hd2 i4 i3
  go_enter Try.func105, Try.ntmps105
  go_wp2_with fail
  refine (rint_any b r most _ hr (by omega) hm).mono ?_; rintro e w1 ⟨rfl, h1, k1⟩
  rw [← hq.out] at h1
  rw [← hn.out]
  go_wp2_with fail
  go_loopw [5, 9] (fun v i wr => ∃ (k : Nat) (ri : Rd) (zs : List (Int × Int)), k ≤ n ∧ i = .int .i64 (k : Int) ∧ zs.length = k ∧ IsRd wr b ri ∧ OwnP wr w.heap.size 31 v zs ∧ Kept b w wr ∧ (k < n → ri.torn = false) ∧ ri.left.size + k ≤ 1000000 ∧
    Hid (Rd.dots n q = ((Rd.dots (n - k) ri).1, (Rd.dots (n - k) ri).2.map (zs ++ ·)))) (fun _ i _ => n - (intOf i).toNat)
  case atStart => exact ⟨0, q, [], by omega, rfl, rfl, h1, OwnP.nil _ _ _, k1, fun h => I4.out (by omega), by omega, Lib.hid (by simp)⟩
  case round =>
    clear h1 k1
    obtain ⟨k, ri, zs, hkn, rfl, hz, hrd, hown, hk, ht, hsz, hI⟩ := hrel
    by_cases hlt : k < n
    · have hst : Rd.dots (n - k) ri = if ri.dot.1.torn then (ri.dot.1, none) else ((Rd.dots (n - (k + 1)) ri.dot.1).1, (Rd.dots (n - (k + 1)) ri.dot.1).2.map (ri.dot.2 :: ·)) := by
        rw [show n - k = (n - (k + 1)) + 1 from by omega, Rd.dots]
      have hu := ri.dot_uses
      obtain ⟨T, hT⟩ := nm ri.dot.1.torn
      obtain ⟨⟨x, y⟩, hxy⟩ := nm ri.dot.2
      rw [← hT.out] at hst hu
      rw [← hxy.out] at hst
      have hbw : b < wr.heap.size := hrd.lt
      have HST := Lib.hid hst
      have HU := Lib.hid hu
      clear hst hu
      go_wp2_with fail
      refine (rdot_any b ri _ hrd (by omega)).mono ?_; rintro e w3 ⟨rfl, ⟨rj, h3, t3, e3, z3⟩, k3⟩
      rw [← hxy.out]
      rw [← hT.out] at t3 e3
      have E3 := Lib.hid e3
      have hown3 := k3.own hown hbl
      have k03 := hk.trans k3
      have s3 := k03.size
      clear hown hk hrd k3 e3
      go_wp2_with (at_builtin; refine app_pairs rfl _ _ rfl w.heap.size _ zs rfl (hown3.alloc _) (some ⟨w3.heap.size, 0, none⟩) 1 1 [(x, y)] rfl rfl (fun h => by cases h) (SlP.ofBlk (Blk.new w3 _ _)) (by omega) (Nat.le_trans s3 (by simp)) ?_)
      intro v' w4 hown4 hgrow
      have h4 : IsRd w4 b rj := Blk.grownP (Blk.alloc h3 _) (hown3.alloc _) hbl hgrow
      have k04 := (k03.alloc _).grownP (hown3.alloc _) (Nat.le_refl _) hgrow
      clear hown3 hgrow k03 h3
      go_wp2_with fail
      refine (fine_is' T b rj (by show _ = _; exact t3.symm) w4 h4).mono ?_; rintro e w5 ⟨rfl, rfl⟩
      cases T
      · obtain rfl := E3.out rfl
        have hu2 := (HU.out rfl).2
        have HI : Hid (Rd.dots n q = ((Rd.dots (n - (k + 1)) ri.dot.1).1, (Rd.dots (n - (k + 1)) ri.dot.1).2.map ((zs ++ [(x, y)]) ++ ·))) := by
          show _ = _
          rw [hI.out, HST.out]
          simp only [Bool.false_eq_true, if_false, Option.map_map]
          congr 2
          funext l
          simp
        have htt : ri.dot.1.torn = false := hT.out.symm
        go_wp2_with fail
        go_roundw
        case rel => exact ⟨k + 1, ri.dot.1, zs ++ [(x, y)], by omega, by go_num, by simp [hz], h4, hown4, k04, fun _ => htt, by omega, HI⟩
        case measure => simp [intOf]; omega
      · have e0 : d = (⟨ri.dot.1.left, true⟩, []) := by
          rw [HD.out, hI.out, HST.out]; rfl
        have E0 := Lib.hid e0
        clear e0
        go_wp2_with fail
        go_ret
        exact FIN.out _ rj none 0 0 (by rw [E0.out]; rfl) (by rw [E0.out]; exact ⟨SlP.nil _ _, fun a h => by cases h⟩) h4 (by rw [E0.out, t3]) (by rw [E0.out]; intro h; cases h) k04 (by omega)
    · obtain rfl : k = n := by omega
      have hdd : Rd.dots k q = (ri, some zs) := by
        rw [hI.out, Nat.sub_self]; simp [Rd.dots]
      obtain ⟨T, hT⟩ := nm ri.torn
      obtain ⟨A, hA⟩ := nm (decide (Asc zs))
      have hd3 : d = if T = true ∨ A = false then (⟨ri.left, true⟩, []) else (ri, zs) := by
        rw [HD.out, hdd]
        simp only
        rw [← hT.out]
        have : (¬ Asc zs) = (A = false) := by rw [hA.out]; simp
        simp only [this]
      obtain ⟨ao, cap, rfl, _, _, hsl, hab⟩ := hown.sl
      have HD3 := Lib.hid hd3
      have HSL := Lib.hid hsl
      have HZ := Lib.hid hz
      clear hd3 hdd hown hsl
      rw [hz]
      clear hz
      go_wp2_with fail
      refine (fine_is' T b ri hT _ hrd).mono ?_; rintro e w5 ⟨rfl, rfl⟩
      obtain ⟨t1, t2⟩ := ri.int_neg
      cases T
      · go_wp2_with fail
        refine (rises_is ao zs k cap HZ (by omega) A hA _ HSL.out).mono ?_; rintro e w6 ⟨rfl, hB6⟩
        have h6 : IsRd w6 b ri := Blk.below hrd hB6 hrd.lt
        have k06 := hk.trans (Kept.ofBelow hB6)
        have HSL6 := Lib.hid (HSL.out.below hB6)
        cases A
        · have e0 : d = (⟨ri.left, true⟩, []) := by rw [HD3.out]; simp
          have E0 := Lib.hid e0
          clear e0
          go_wp2_with fail
          refine (torn_any b ri _ h6 (by omega)).mono ?_; rintro e w7 ⟨rfl, h7, k7⟩
          go_wp2_with fail
          go_ret
          exact FIN.out _ _ none 0 0 (by rw [E0.out]; rfl) (by rw [E0.out]; exact ⟨SlP.nil _ _, fun a h => by cases h⟩) h7 (by rw [E0.out, t1]) (by rw [E0.out]; intro h; cases h) (k06.trans k7) (by omega)
        · have e0 : d = (ri, zs) := by rw [HD3.out]; simp
          have E0 := Lib.hid e0
          clear e0
          go_wp2_with fail
          go_ret
          exact FIN.out _ ri ao cap k (by rw [E0.out]; exact HZ.out) (by rw [E0.out]; exact ⟨HSL6.out, hab⟩) h6 (by rw [E0.out]) (by rw [E0.out]; intro h; rfl) k06 (by omega)
      · have e0 : d = (⟨ri.left, true⟩, []) := by rw [HD3.out]; simp
        have E0 := Lib.hid e0
        clear e0
        go_wp2_with fail
        refine (torn_any b ri _ hrd (by omega)).mono ?_; rintro e w7 ⟨rfl, h7, k7⟩
        go_wp2_with fail
        go_ret
        exact FIN.out _ _ none 0 0 (by rw [E0.out]; rfl) (by rw [E0.out]; exact ⟨SlP.nil _ _, fun a h => by cases h⟩) h7 (by rw [E0.out, t1]) (by rw [E0.out]; intro h; cases h) (hk.trans k7) (by omega)

/-! ### As what stands there -/
theorem Rd.dot_red (r : Rd) : Red dotP dotL r r.dot.1 r.dot.2 := by
  have h1 := red_int r 1099511627776 (by decide)
  have h2 := red_int (r.int 1099511627776).1 1099511627776 (by decide)
  have h3 := h1.seq h2 (tells_in (by decide))
  have ht : Tells (fun p : Int × Int => In 1099511627776 p.1 ∧ In 1099511627776 p.2) (fun p => numZ p.1 ++ numZ p.2) := (tells_in (by decide)).seq (tells_in (by decide))
  have hi : ∀ y : Int × Int, ((In 1099511627776 y.1 ∧ In 1099511627776 y.2) ∧ dotP y) ↔ dotP y := fun y => ⟨fun h => h.2, fun h => ⟨by have := h.le; exact ⟨⟨by omega, by omega⟩, by omega, by omega⟩, h⟩⟩
  unfold Rd.dot
  split
  · rename_i hc
    refine (Red.fail (C := dotP) h3 ht ?_ rfl).iff hi
    rcases hc with hc | hc
    · exact .inl hc
    · exact .inr (by show ¬ okD _ _ = true; rw [hc]; decide)
  · rename_i hc
    refine (Red.pass (C := dotP) h3 fun _ => ?_).iff hi
    show okD _ _ = true
    cases h : okD ((r.int 1099511627776).2 : Int) (((r.int 1099511627776).1.int 1099511627776).2 : Int) with
    | true => rfl
    | false => exact absurd (.inr h) hc
theorem tells_dotP : Tells dotP dotL := tells_dot.sub fun _ h => h.up
theorem Rd.dots_red : ∀ (n : Nat) (r : Rd), (∀ q l, Rd.dots n r = (q, some l) → RedN dotP dotL n r n q l) ∧ (∀ q, Rd.dots n r = (q, none) → q.torn = true ∧ ∀ (ys : List Dot2) (t : List UInt8), r.torn = false → ys.length = n → (∀ y ∈ ys, dotP y) → bl r.left ≠ ys.flatMap dotL ++ t)
  | 0, r => by
    refine ⟨fun q l h => ?_, fun q h => by cases h⟩
    cases h
    exact RedN.zero r
  | n + 1, r => by
    have hd := r.dot_red
    obtain ⟨i1, i2⟩ := Rd.dots_red n r.dot.1
    have far : (∀ (ys : List Dot2) (t : List UInt8), r.dot.1.torn = false → ys.length = n → (∀ y ∈ ys, dotP y) → bl r.dot.1.left ≠ ys.flatMap dotL ++ t) → ∀ (ys : List Dot2) (t : List UInt8), r.torn = false → ys.length = n + 1 → (∀ y ∈ ys, dotP y) → bl r.left ≠ ys.flatMap dotL ++ t := by
      intro h ys t hr hl hy e
      obtain ⟨y, ys, rfl⟩ : ∃ y zs, ys = y :: zs := by cases ys with | nil => simp at hl | cons y zs => exact ⟨y, zs, rfl⟩
      rw [List.flatMap_cons, List.append_assoc] at e
      rcases hd with ⟨h1, h2, h3, h4⟩ | ⟨h1, h2⟩
      · rw [h4] at e
        obtain ⟨_, e2⟩ := tells_dotP _ _ _ _ h3 (hy y (by simp)) e
        exact h ys t h1 (by simpa using hl) (fun z hz => hy z (by simp [hz])) e2
      · exact h2 y _ hr (hy y (by simp)) e
    rw [Rd.dots]
    cases ht : r.dot.1.torn with
    | true =>
      rw [if_pos rfl]
      refine ⟨fun q l h => (by cases h), fun q h => ?_⟩
      cases h
      exact ⟨ht, far fun ys t h => by rw [ht] at h; cases h⟩
    | false =>
      rw [if_neg (by simp)]
      obtain ⟨⟨q', o⟩, ho⟩ := nm (Rd.dots n r.dot.1)
      rw [← ho.out] at i1 i2 ⊢
      obtain ⟨h1, h2, h3⟩ := hd.is ht
      cases o with
      | none =>
        refine ⟨fun q l h => (by cases h), fun q h => ?_⟩
        cases h
        obtain ⟨g1, g2⟩ := i2 _ rfl
        exact ⟨g1, far g2⟩
      | some l' =>
        refine ⟨fun q l h => ?_, fun q h => by cases h⟩
        cases h
        obtain ⟨g1, g2⟩ := i1 _ _ rfl
        refine ⟨by simp [g1], ?_⟩
        rcases g2 with ⟨k1, k2, k3, k4⟩ | ⟨k1, k2⟩
        · refine .inl ⟨k1, h1, ?_, ?_⟩
          · intro z hz
            rcases List.mem_cons.1 hz with rfl | hz
            · exact h2
            · exact k3 z hz
          · rw [h3, k4, List.flatMap_cons, List.append_assoc]
        · exact .inr ⟨k1, far k2⟩
/-- A row that may be. -/
def RowP (most : Int) (xs : List Dot2) : Prop := (xs.length : Int) ≤ most ∧ (∀ x ∈ xs, dotP x) ∧ Asc xs
theorem tells_rowD {most : Int} (h : most ≤ 1000000) : Tells (fun xs : List Dot2 => (xs.length : Int) ≤ most ∧ ∀ y ∈ xs, dotP y) (rowL dotL) := (tells_row tells_dotP).sub fun _ hx => ⟨by have := hx.1; omega, hx.2⟩
theorem Rd.row_red (r : Rd) (most : Int) (hm : most ≤ 1000000) : Red (RowP most) (rowL dotL) r (r.row most).1 (r.row most).2 := by
  have h1 := red_int r most (by omega)
  obtain ⟨d1, d2⟩ := Rd.dots_red (r.int most).2 (r.int most).1
  have hi : ∀ y : List Dot2, (((y.length : Int) ≤ most ∧ ∀ z ∈ y, dotP z) ∧ Asc y) ↔ RowP most y := fun y => ⟨fun h => ⟨h.1.1, h.1.2, h.2⟩, fun h => ⟨⟨h.1, h.2.1⟩, h.2.2⟩⟩
  unfold Rd.row
  obtain ⟨⟨q, o⟩, ho⟩ := nm (Rd.dots (r.int most).2 (r.int most).1)
  rw [← ho.out] at d1 d2 ⊢
  cases o with
  | none =>
    obtain ⟨g1, g2⟩ := d2 _ rfl
    refine .inr ⟨rfl, fun ys t hr hy e => ?_⟩
    have e' : bl r.left = numZ (ys.length : Int) ++ (ys.flatMap dotL ++ t) := by rw [e, rowL, List.append_assoc]; rfl
    rcases h1 with ⟨k1, k2, k3, k4⟩ | ⟨k1, k2⟩
    · rw [k4] at e'
      obtain ⟨e1, e2⟩ := tells_in (most := most) (by omega) _ _ _ _ k3 ⟨by omega, hy.1⟩ e'
      exact g2 ys t k1 (by omega) hy.2.1 e2
    · exact k2 _ _ hr ⟨by omega, hy.1⟩ e'
  | some l =>
    have hl := (d1 _ _ rfl).red h1 hm
    simp only
    split
    · rename_i hc
      exact (Red.fail (C := Asc) hl (tells_rowD hm) hc rfl).iff hi
    · rename_i hc
      refine (Red.pass (C := Asc) hl fun _ => ?_).iff hi
      by_cases ha : Asc l
      · exact ha
      · exact absurd (.inr ha) hc
theorem rdot_red (b : Nat) (r : Rd) (w : World) (hr : IsRd w b r) (hs : r.left.size ≤ 1000000) :
    Calls Try.prog 81 #[.pointer (some ⟨b, 0, none⟩)] w fun e w' => ∃ (p q : Int) (r' : Rd), e = .returned (.agg #[.int .i64 p, .int .i64 q]) ∧ IsRd w' b r' ∧ Red dotP dotL r r' (p, q) ∧ r'.left.size ≤ 1000000 ∧ Kept b w w' := by
  refine (rdot_any b r w hr hs).mono ?_
  rintro e w' ⟨rfl, ⟨r', h1, h2, h3, h4⟩, h5⟩
  refine ⟨_, _, r', rfl, h1, ?_, by omega, h5⟩
  have h := r.dot_red
  cases ht : r.dot.1.torn with
  | true => exact h.any ht (h2.trans ht)
  | false => rw [h3 ht]; exact h
theorem readrow_red (b : Nat) (r : Rd) (most : Int) (w : World) (hr : IsRd w b r) (hs : r.left.size ≤ 1000000) (hm : most ≤ 1000000) :
    Calls Try.prog 105 #[.pointer (some ⟨b, 0, none⟩), .int .i64 most] w fun e w' => ∃ ao n cap xs r', e = .returned (.slice ao n cap) ∧ xs.length = n ∧ SlP w' ao xs ∧ (∀ a, ao = some a → w.heap.size ≤ a.block) ∧ IsRd w' b r' ∧ Red (RowP most) (rowL dotL) r r' xs ∧ r'.left.size ≤ 1000000 ∧ Kept b w w' := by
  refine (readrow_any b r most w hr hs (by omega)).mono ?_
  rintro e w' ⟨ao, cap, rfl, ⟨h0, h0'⟩, ⟨r', h1, h2, h3, h4⟩, h5⟩
  refine ⟨ao, _, cap, _, r', rfl, rfl, h0, h0', h1, ?_, h4, h5⟩
  have h := r.row_red most hm
  cases ht : (r.row most).1.torn with
  | true => exact h.any ht (h2.trans ht)
  | false => rw [h3 ht]; exact h
end Go.Proofs.Ytfpjdmplepepjaa

/-! WireEmpty: Wire, of what has no lists: their checks, bytes, reads, sames. -/
namespace Go.Proofs.Ytfpjdmplepepjaa
open Go.RowKit

set_option maxRecDepth 100000 in
set_option maxHeartbeats 1000000 in
theorem rises0 (w : World) : Calls Try.prog 98 #[.slice none 0 0] w fun e w' => e = .returned (.bool true) ∧ w = w' := by
  go_enter Try.func98, Try.ntmps98
  go_wp2_with fail
  refine wp_loop_rounds 1 ?_
  rw [rounds_succ]
  go_wp2_with fail
  go_ret
  exact ⟨rfl, rfl⟩

set_option maxRecDepth 100000 in
set_option maxHeartbeats 1000000 in
theorem names0 (w : World) : Calls Try.prog 30 #[.slice none 0 0] w fun e w' => e = .returned (.int .i64 0) ∧ w = w' := by
  go_enter Try.func30, Try.ntmps30
  go_wp2_with fail
  refine wp_loop_rounds 1 ?_
  rw [rounds_succ]
  go_wp2_with fail
  go_ret
  exact ⟨rfl, rfl⟩

set_option maxRecDepth 100000 in
set_option maxHeartbeats 1000000 in
theorem views0 (w : World) : Calls Try.prog 31 #[.slice none 0 0] w fun e w' => e = .returned (.int .i64 0) ∧ w = w' := by
  go_enter Try.func31, Try.ntmps31
  go_wp2_with fail
  refine wp_loop_rounds 1 ?_
  rw [rounds_succ]
  go_wp2_with fail
  go_ret
  exact ⟨rfl, rfl⟩

set_option maxRecDepth 100000 in
set_option maxHeartbeats 1000000 in
theorem eqD0 (w : World) : Calls Try.prog 107 #[.slice none 0 0, .slice none 0 0] w fun e w' => e = .returned (.bool true) ∧ w = w' := by
  go_enter Try.func107, Try.ntmps107
  go_wp2_with fail
  refine wp_loop_rounds 1 ?_
  rw [rounds_succ]
  go_wp2_with fail
  go_ret
  exact ⟨rfl, rfl⟩

set_option maxRecDepth 100000 in
set_option maxHeartbeats 1000000 in
theorem eqM0 (w : World) : Calls Try.prog 83 #[.slice none 0 0, .slice none 0 0] w fun e w' => e = .returned (.bool true) ∧ w = w' := by
  go_enter Try.func83, Try.ntmps83
  go_wp2_with fail
  refine wp_loop_rounds 1 ?_
  rw [rounds_succ]
  go_wp2_with fail
  go_ret
  exact ⟨rfl, rfl⟩

set_option maxRecDepth 100000 in
set_option maxHeartbeats 1000000 in
theorem eqT0 (w : World) : Calls Try.prog 84 #[.slice none 0 0, .slice none 0 0] w fun e w' => e = .returned (.bool true) ∧ w = w' := by
  go_enter Try.func84, Try.ntmps84
  go_wp2_with fail
  refine wp_loop_rounds 1 ?_
  rw [rounds_succ]
  go_wp2_with fail
  go_ret
  exact ⟨rfl, rfl⟩

set_option maxRecDepth 100000 in
set_option maxHeartbeats 1000000 in
theorem eqP0 (w : World) : Calls Try.prog 85 #[.slice none 0 0, .slice none 0 0] w fun e w' => e = .returned (.bool true) ∧ w = w' := by
  go_enter Try.func85, Try.ntmps85
  go_wp2_with fail
  refine wp_loop_rounds 1 ?_
  rw [rounds_succ]
  go_wp2_with fail
  go_ret
  exact ⟨rfl, rfl⟩

set_option maxRecDepth 100000 in
set_option maxHeartbeats 1000000 in
theorem sameT0 (w : World) : Calls Try.prog 46 #[.slice none 0 0, .slice none 0 0] w fun e w' => e = .returned (.bool true) ∧ w = w' := by
  go_enter Try.func46, Try.ntmps46
  go_wp2_with fail
  refine (eqT0 _).mono ?_; rintro e w2 ⟨rfl, rfl⟩
  go_wp2_with fail
  go_ret
  exact ⟨rfl, rfl⟩

set_option maxRecDepth 100000 in
set_option maxHeartbeats 1000000 in
theorem sameP0 (w : World) : Calls Try.prog 47 #[.slice none 0 0, .slice none 0 0] w fun e w' => e = .returned (.bool true) ∧ w = w' := by
  go_enter Try.func47, Try.ntmps47
  go_wp2_with fail
  refine (eqP0 _).mono ?_; rintro e w2 ⟨rfl, rfl⟩
  go_wp2_with fail
  go_ret
  exact ⟨rfl, rfl⟩

set_option maxRecDepth 100000 in
set_option maxHeartbeats 1000000 in
theorem ctxsame0 (w : World) : Calls Try.prog 82 #[.agg #[.slice none 0 0, .slice none 0 0], .agg #[.slice none 0 0, .slice none 0 0]] w fun e w' => e = .returned (.bool true) ∧ Below w.heap.size w w' := by
  go_enter Try.func82, Try.ntmps82
  go_wp2_with (go_at_call 107; with_reducible (refine (eqD0 _).mono ?_); rintro e w2 ⟨rfl, rfl⟩)
  go_ret
  exact ⟨rfl, bNew (bOld _) _⟩

set_option maxRecDepth 100000 in
set_option maxHeartbeats 1000000 in
theorem bagsame0 (w : World) : Calls Try.prog 45 #[.agg #[.slice none 0 0, .slice none 0 0, .slice none 0 0], .agg #[.slice none 0 0, .slice none 0 0, .slice none 0 0]] w fun e w' => e = .returned (.bool true) ∧ Below w.heap.size w w' := by
  obtain ⟨w0, hw0⟩ := nm ((w.alloc (.cells #[.slice none 0 0, .slice none 0 0, .slice none 0 0] 27)).alloc (.cells #[.slice none 0 0, .slice none 0 0, .slice none 0 0] 27))
  have HB : Hid (Below w.heap.size w w0) := by rw [hw0.out]; exact bNew (bOld _) _
  have k1 : Blk w0 w.heap.size #[.slice none 0 0, .slice none 0 0, .slice none 0 0] 27 := by rw [hw0.out]; exact (Blk.new w _ _).alloc _
  have k2 : Blk w0 (w.heap.size + 1) #[.slice none 0 0, .slice none 0 0, .slice none 0 0] 27 := by rw [hw0.out]; exact blk_at (by simp)
  go_enter Try.func45, Try.ntmps45
  go_upto_region 1 with fail
  rw [← hw0.out]
  have c0 : w0.cell? ⟨w.heap.size, 0, none⟩ = some (.slice none 0 0) := k1.cell 0
  have d0 : w0.cell? ⟨w.heap.size + 1, 0, none⟩ = some (.slice none 0 0) := k2.cell 0
  have c1 : w0.cell? ⟨w.heap.size, 1, none⟩ = some (.slice none 0 0) := k1.cell 1
  have d1 : w0.cell? ⟨w.heap.size + 1, 1, none⟩ = some (.slice none 0 0) := k2.cell 1
  have c2 : w0.cell? ⟨w.heap.size, 2, none⟩ = some (.slice none 0 0) := k1.cell 2
  have d2 : w0.cell? ⟨w.heap.size + 1, 2, none⟩ = some (.slice none 0 0) := k2.cell 2
  go_wp2_with fail
  refine (ctxsame0 _).mono ?_; rintro e w2 ⟨rfl, hB2⟩
  have e1 : w2.cell? ⟨w.heap.size, 0, none⟩ = some (.slice none 0 0) := (hB2.cell (p := ⟨w.heap.size, 0, none⟩) k1.lt).trans c0
  have e2 : w2.cell? ⟨w.heap.size + 1, 0, none⟩ = some (.slice none 0 0) := (hB2.cell (p := ⟨w.heap.size + 1, 0, none⟩) k2.lt).trans d0
  go_wp2_with (go_at_call 83; with_reducible (refine (eqM0 _).mono ?_); rintro e w2 ⟨rfl, rfl⟩)
  go_ret
  exact ⟨rfl, bNext HB.out hB2⟩

set_option maxRecDepth 100000 in
set_option maxHeartbeats 1000000 in
theorem ctx0 (w : World) : Calls Try.prog 66 #[.agg #[.slice none 0 0, .slice none 0 0]] w fun e w' => e = .returned (.int .i64 0) ∧ Below w.heap.size w w' := by
  go_enter Try.func66, Try.ntmps66
  go_wp2_with (go_at_call 98; with_reducible (refine (rises0 _).mono ?_); rintro e w2 ⟨rfl, rfl⟩)
  refine wp_loop_rounds 1 ?_
  rw [rounds_succ]
  go_wp2_with fail
  refine wp_loop_rounds 1 ?_
  rw [rounds_succ]
  go_wp2_with fail
  go_ret
  exact ⟨rfl, bOld _⟩

set_option maxRecDepth 100000 in
set_option maxHeartbeats 1000000 in
theorem bag0 (w : World) : Calls Try.prog 29 #[.agg #[.slice none 0 0, .slice none 0 0, .slice none 0 0]] w fun e w' => e = .returned (.int .i64 0) ∧ Below w.heap.size w w' := by
  obtain ⟨w0, hw0⟩ := nm (w.alloc (.cells #[.slice none 0 0, .slice none 0 0, .slice none 0 0] 27))
  have HB : Hid (Below w.heap.size w w0) := by rw [hw0.out]; exact bOld _
  have k1 : Blk w0 w.heap.size #[.slice none 0 0, .slice none 0 0, .slice none 0 0] 27 := by rw [hw0.out]; exact Blk.new w _ _
  go_enter Try.func29, Try.ntmps29
  go_upto_region 1 with fail
  rw [← hw0.out]
  have c0 : w0.cell? ⟨w.heap.size, 0, none⟩ = some (.slice none 0 0) := k1.cell 0
  have c1 : w0.cell? ⟨w.heap.size, 1, none⟩ = some (.slice none 0 0) := k1.cell 1
  have c2 : w0.cell? ⟨w.heap.size, 2, none⟩ = some (.slice none 0 0) := k1.cell 2
  go_wp2_with fail
  refine (ctx0 _).mono ?_; rintro e w2 ⟨rfl, hB2⟩
  have e1 : w2.cell? ⟨w.heap.size, 0, none⟩ = some (.slice none 0 0) := (hB2.cell (p := ⟨w.heap.size, 0, none⟩) k1.lt).trans c0
  go_wp2_with fail
  refine wp_loop_rounds 1 ?_
  rw [rounds_succ]
  go_wp2_with fail
  go_ret
  exact ⟨rfl, bNext HB.out hB2⟩

set_option maxRecDepth 100000 in
set_option maxHeartbeats 1000000 in
theorem int0 (w : World) : Calls Try.prog 55 #[.int .i64 0] w fun e w' => e = .returned (.string (ofL [0])) ∧ Below w.heap.size w w' := by
  have h := mint_int 0 w (by decide)
  rw [show (0 : Int).toNat = 0 from rfl, num0] at h
  exact h
set_option maxRecDepth 100000 in
set_option maxHeartbeats 1000000 in
theorem row0 (w : World) : Calls Try.prog 93 #[.slice none 0 0] w fun e w' => e = .returned (.string (ofL [0])) ∧ Below w.heap.size w w' := by
  go_enter Try.func93, Try.ntmps93
  go_wp2_with fail
  refine (int0 _).mono ?_; rintro e w2 ⟨rfl, hB⟩
  go_wp2_with fail
  refine wp_loop_rounds 1 ?_
  rw [rounds_succ]
  go_wp2_with fail
  go_ret
  exact ⟨rfl, hB⟩

set_option maxRecDepth 100000 in
set_option maxHeartbeats 1000000 in
theorem namesb0 (w : World) : Calls Try.prog 24 #[.slice none 0 0] w fun e w' => e = .returned (.string (ofL [0])) ∧ Below w.heap.size w w' := by
  go_enter Try.func24, Try.ntmps24
  go_wp2_with fail
  refine (int0 _).mono ?_; rintro e w2 ⟨rfl, hB⟩
  go_wp2_with fail
  refine wp_loop_rounds 1 ?_
  rw [rounds_succ]
  go_wp2_with fail
  go_ret
  exact ⟨rfl, hB⟩

set_option maxRecDepth 100000 in
set_option maxHeartbeats 1000000 in
theorem viewb0 (w : World) : Calls Try.prog 25 #[.slice none 0 0] w fun e w' => e = .returned (.string (ofL [0])) ∧ Below w.heap.size w w' := by
  go_enter Try.func25, Try.ntmps25
  go_wp2_with fail
  refine (int0 _).mono ?_; rintro e w2 ⟨rfl, hB⟩
  go_wp2_with fail
  refine wp_loop_rounds 1 ?_
  rw [rounds_succ]
  go_wp2_with fail
  go_ret
  exact ⟨rfl, hB⟩
end Go.Proofs.Ytfpjdmplepepjaa

/-! WireEmptyB: Wire, of what has no lists: a context's and a bag's bytes; what is read of them. -/
namespace Go.Proofs.Ytfpjdmplepepjaa
open Go.RowKit

set_option maxRecDepth 100000 in
set_option maxHeartbeats 2000000 in
theorem ctxb0 (w : World) : Calls Try.prog 58 #[.agg #[.slice none 0 0, .slice none 0 0]] w fun e w' => e = .returned (.string (ofL [0, 0])) ∧ Below w.heap.size w w' := by
  obtain ⟨w0, hw0⟩ := nm (w.alloc (.cells #[.slice none 0 0, .slice none 0 0] 25))
  obtain ⟨bx, hbx⟩ := nm w.heap.size
  have HB : Hid (Below w.heap.size w w0) := by rw [hw0.out]; exact bOld _
  have k1 : Blk w0 bx #[.slice none 0 0, .slice none 0 0] 25 := by rw [hw0.out, hbx.out]; exact Blk.new w _ _
  have c0 : w0.cell? ⟨bx, 0, none⟩ = some (.slice none 0 0) := k1.cell 0
  have c1 : w0.cell? ⟨bx, 1, none⟩ = some (.slice none 0 0) := k1.cell 1
  have hlt : bx < w0.heap.size := k1.lt
  have HK : Hid (∀ wa : World, Below w0.drew.heap.size w0.drew wa → wa.cell? ⟨bx, 0, none⟩ = some (.slice none 0 0) ∧ wa.cell? ⟨bx, 1, none⟩ = some (.slice none 0 0)) := by show ∀ wa : World, _; intro wa h; exact ⟨(h.cell (p := ⟨bx, 0, none⟩) hlt).trans c0, (h.cell (p := ⟨bx, 1, none⟩) hlt).trans c1⟩
  obtain ⟨z1, hz1⟩ := nm (ofL [0])
  have hap : Hid (z1 ++ z1 = ofL [0, 0]) := by show _ = _; rw [hz1.out, ofL_append]; rfl
  have hT : True := trivial
  have HR : Hid (∀ w, Calls Try.prog 93 #[.slice none 0 0] w fun e w' => e = .returned (.string z1) ∧ Below w.heap.size w w') := by intro w; rw [hz1.out]; exact row0 w
  have l3 : z1.size + z1.size ≤ 9223372036854775807 := by rw [hz1.out, ofL_size]; decide
  have hadd := fun w : World => run_string_add_sum (P := Try.prog) w z1 z1 l3
  go_enter Try.func58, Try.ntmps58
  go_upto_region 1 with fail
  rw [← hw0.out, ← hbx.out]
  go_region_held3 (fun w' => w'.cell? ⟨bx, 0, none⟩ = some (.slice none 0 0) ∧ w'.cell? ⟨bx, 1, none⟩ = some (.slice none 0 0))
    (first
      | exact HK.out _ (bNext hBa hBb)
      | exact HK.out _ hBa
      | exact ⟨cell_dr c0, cell_dr c1⟩
      | exact ⟨c0, c1⟩)
    (first
      | (go_at_call 93; clear hT; with_reducible (refine (HR.out _).mono ?_); rintro e wa ⟨rfl, hBa⟩)
      | (go_at_call 93; with_reducible (refine (HR.out _).mono ?_); rintro e wb ⟨rfl, hBb⟩))
  all_goals (go_wp2_with fail; go_ret; exact ⟨congrArg (fun t => Ending.returned (Value.string t)) hap.out, bNext (bDrew HB.out) (bNext hBa hBb)⟩)

set_option maxRecDepth 100000 in
set_option maxHeartbeats 2000000 in
theorem bagb0 (w : World) : Calls Try.prog 23 #[.agg #[.slice none 0 0, .slice none 0 0, .slice none 0 0]] w fun e w' => e = .returned (.string (ofL [0, 0, 0])) ∧ Below w.heap.size w w' := by
  obtain ⟨w0, hw0⟩ := nm ((w.alloc (.cells #[.slice none 0 0, .slice none 0 0, .slice none 0 0] 27)).alloc (.cells #[.pointer none, .slice none 0 0] 91))
  obtain ⟨bx, hbx⟩ := nm w.heap.size
  have HB : Hid (Below w.heap.size w w0) := by rw [hw0.out]; exact bNew (bOld _) _
  have k1 : Blk w0 bx #[.slice none 0 0, .slice none 0 0, .slice none 0 0] 27 := by rw [hw0.out, hbx.out]; exact (Blk.new w _ _).alloc _
  have hbd := bnew (w.alloc (.cells #[.slice none 0 0, .slice none 0 0, .slice none 0 0] 27))
  rw [← hw0.out, show (w.alloc (.cells #[.slice none 0 0, .slice none 0 0, .slice none 0 0] 27)).heap.size = bx + 1 from by rw [hbx.out]; simp] at hbd
  have hs0 : w0.heap.size = bx + 2 := by rw [hw0.out, hbx.out]; simp
  have hle : bx + 1 ≤ w0.drew.heap.size := by show bx + 1 ≤ w0.heap.size; omega
  have hbd2 : Lib.IsBuilder 91 5 (bx + 1) (bx + 1) (Lib.byteCells []) w0.drew := bstays hbd (bDrew (Below.refl _ _))
  have HBD := Lib.hid hbd2
  have c0 : w0.cell? ⟨bx, 0, none⟩ = some (.slice none 0 0) := k1.cell 0
  have c1 : w0.cell? ⟨bx, 1, none⟩ = some (.slice none 0 0) := k1.cell 1
  have c2 : w0.cell? ⟨bx, 2, none⟩ = some (.slice none 0 0) := k1.cell 2
  have HK : Hid (∀ wa : World, Below (bx + 1) w0.drew wa → wa.cell? ⟨bx, 0, none⟩ = some (.slice none 0 0) ∧ wa.cell? ⟨bx, 1, none⟩ = some (.slice none 0 0) ∧ wa.cell? ⟨bx, 2, none⟩ = some (.slice none 0 0)) := by show ∀ wa : World, _; intro wa h; exact ⟨(h.cell (p := ⟨bx, 0, none⟩) (Nat.lt_succ_self bx)).trans c0, (h.cell (p := ⟨bx, 1, none⟩) (Nat.lt_succ_self bx)).trans c1, (h.cell (p := ⟨bx, 2, none⟩) (Nat.lt_succ_self bx)).trans c2⟩
  obtain ⟨z1, hz1⟩ := nm (ofL [0])
  obtain ⟨z2, hz2⟩ := nm (ofL [0, 0])
  have hap : Hid (Lib.byteCells ([] ++ bl (z2 ++ z1)) = Lib.byteCells [0, 0, 0]) := by show _ = _; rw [hz1.out, hz2.out, ofL_append, bl_ofL]; rfl
  have HSZ : Hid (([] : List UInt8).length + (z2 ++ z1).size ≤ 140737488355328) := by show _ ≤ _; rw [hz1.out, hz2.out, ofL_append, ofL_size]; decide
  have HI : Hid (∀ w, Calls Try.prog 55 #[.int .i64 0] w fun e w' => e = .returned (.string z1) ∧ Below w.heap.size w w') := by intro w; rw [hz1.out]; exact int0 w
  have HC : Hid (∀ w, Calls Try.prog 58 #[.agg #[.slice none 0 0, .slice none 0 0]] w fun e w' => e = .returned (.string z2) ∧ Below w.heap.size w w') := by intro w; rw [hz2.out]; exact ctxb0 w
  have l3 : z2.size + z1.size ≤ 9223372036854775807 := by rw [hz1.out, hz2.out, ofL_size, ofL_size]; decide
  have hadd := fun w : World => run_string_add_sum (P := Try.prog) w z2 z1 l3
  clear hbd hbd2
  go_enter Try.func23, Try.ntmps23
  go_upto_region 2 with fail
  rw [← hw0.out, ← hbx.out]
  go_region_held3 (fun w' => w'.cell? ⟨bx, 0, none⟩ = some (.slice none 0 0) ∧ w'.cell? ⟨bx, 1, none⟩ = some (.slice none 0 0) ∧ w'.cell? ⟨bx, 2, none⟩ = some (.slice none 0 0))
    (first
      | exact HK.out _ (((bNext hBa hBb).mono hle).trans hBc)
      | exact HK.out _ (((bNext hBb hBa).mono hle).trans hBc)
      | exact HK.out _ ((bNext hBa hBb).mono hle)
      | exact HK.out _ ((bNext hBb hBa).mono hle)
      | exact HK.out _ (hBa.mono hle)
      | exact HK.out _ (hBb.mono hle)
      | exact ⟨cell_dr c0, cell_dr c1, cell_dr c2⟩
      | exact ⟨c0, c1, c2⟩)
    (first
      | (go_at_call 58; with_reducible (refine (HC.out _).mono ?_); rintro e wa ⟨rfl, hBa⟩)
      | (go_at_call 55; with_reducible (refine (HI.out _).mono ?_); rintro e wb ⟨rfl, hBb⟩)
      | (go_at_call 54; refine (bwrite_any (bx + 1) (bx + 1) [] _ _ (bstays (bstays HBD.out hBa) hBb) HSZ.out (Nat.le_trans hle (bNext hBa hBb).size)).mono ?_; rintro e wc ⟨rfl, hbc, hBc⟩)
      | (go_at_call 54; refine (bwrite_any (bx + 1) (bx + 1) [] _ _ (bstays (bstays HBD.out hBb) hBa) HSZ.out (Nat.le_trans hle (bNext hBb hBa).size)).mono ?_; rintro e wc ⟨rfl, hbc, hBc⟩))
  have hBt : Below (bx + 1) w0.drew wc := by first | exact ((bNext hBa hBb).mono hle).trans hBc | exact ((bNext hBb hBa).mono hle).trans hBc
  have hBw : Below w.heap.size w wc := (bDrew HB.out).trans (hBt.mono (by rw [hbx.out]; omega))
  obtain ⟨e0, e1, e2⟩ := HK.out _ hBt
  rw [hap.out] at hbc
  have hle2 : bx + 1 ≤ wc.heap.size := Nat.le_trans hle hBt.size
  have HBC := Lib.hid hbc
  have HBW := Lib.hid hBw
  clear hBa hBb hBc hBt hBw hbc
  go_wp2_with fail
  refine wp_loop_rounds 1 ?_
  rw [rounds_succ]
  go_wp2_with fail
  refine (Try.Builder_String_any _ _ _ _ HBC.out hle2).mono ?_; rintro e w3 ⟨rfl, h1⟩
  have HF := Lib.hid (HBW.out.trans (h1.mono (by rw [hbx.out]; omega)))
  go_wp2_with fail
  go_ret
  exact ⟨rfl, HF.out⟩

theorem rzero_any (b : Nat) (t : List UInt8) (most : Int) (w : World) (hr : IsRd w b ⟨ofL (0 :: t), false⟩) (hs : t.length ≤ 1000000) (h0 : 0 ≤ most) (hm : most ≤ 9223372036854775807) :
    Calls Try.prog 77 #[.pointer (some ⟨b, 0, none⟩), .int .i64 most] w fun e w' => e = .returned (.int .i64 0) ∧ IsRd w' b ⟨ofL t, false⟩ ∧ Kept b w w' := by
  have h := rint_any b ⟨ofL (0 :: t), false⟩ most w hr (by simp only [ofL_size, List.length_cons]; omega) hm
  have e := Rd.int_back 0 most (by decide) h0 t
  rw [num0] at e
  rw [show (0 :: t : List UInt8) = [0] ++ t from rfl] at h
  rw [e] at h
  exact h
theorem fine0 (b : Nat) (t : List UInt8) (w : World) (hr : IsRd w b ⟨ofL t, false⟩) : Calls Try.prog 78 #[.pointer (some ⟨b, 0, none⟩)] w fun e w' => e = .returned (.bool true) ∧ w = w' := fine_is false true rfl b _ w hr
set_option maxRecDepth 100000 in
set_option maxHeartbeats 2000000 in
theorem rrow0 (b : Nat) (t : List UInt8) (w : World) (hr : IsRd w b ⟨ofL (0 :: t), false⟩) (hs : t.length ≤ 1000000) :
    Calls Try.prog 105 #[.pointer (some ⟨b, 0, none⟩), .int .i64 1000] w fun e w' => e = .returned (.slice none 0 0) ∧ IsRd w' b ⟨ofL t, false⟩ ∧ Kept b w w' := by
  go_enter Try.func105, Try.ntmps105
  go_wp2_with fail
  refine (rzero_any b t _ _ hr hs (by decide) (by decide)).mono ?_; rintro e w1 ⟨rfl, h1, hk⟩
  go_wp2_with fail
  refine wp_loop_rounds 1 ?_
  rw [rounds_succ]
  go_wp2_with (first | (go_at_call 78; refine (fine0 b t _ h1).mono ?_; rintro e w2 ⟨rfl, rfl⟩) | (go_at_call 98; refine (rises0 _).mono ?_; rintro e w2 ⟨rfl, rfl⟩))
  go_ret
  exact ⟨rfl, h1, hk⟩

set_option maxRecDepth 100000 in
set_option maxHeartbeats 2000000 in
theorem rnames0 (b : Nat) (t : List UInt8) (w : World) (hr : IsRd w b ⟨ofL (0 :: t), false⟩) (hs : t.length ≤ 1000000) :
    Calls Try.prog 40 #[.pointer (some ⟨b, 0, none⟩)] w fun e w' => e = .returned (.slice none 0 0) ∧ IsRd w' b ⟨ofL t, false⟩ ∧ Kept b w w' := by
  go_enter Try.func40, Try.ntmps40
  go_wp2_with fail
  refine (rzero_any b t _ _ hr hs (by decide) (by decide)).mono ?_; rintro e w1 ⟨rfl, h1, hk⟩
  go_wp2_with fail
  refine wp_loop_rounds 1 ?_
  rw [rounds_succ]
  go_wp2_with (first | (go_at_call 78; refine (fine0 b t _ h1).mono ?_; rintro e w2 ⟨rfl, rfl⟩) | (go_at_call 30; refine (names0 _).mono ?_; rintro e w2 ⟨rfl, rfl⟩))
  go_ret
  exact ⟨rfl, h1, hk⟩

set_option maxRecDepth 100000 in
set_option maxHeartbeats 2000000 in
theorem rview0 (b : Nat) (t : List UInt8) (w : World) (hr : IsRd w b ⟨ofL (0 :: t), false⟩) (hs : t.length ≤ 1000000) :
    Calls Try.prog 41 #[.pointer (some ⟨b, 0, none⟩)] w fun e w' => e = .returned (.slice none 0 0) ∧ IsRd w' b ⟨ofL t, false⟩ ∧ Kept b w w' := by
  go_enter Try.func41, Try.ntmps41
  go_wp2_with fail
  refine (rzero_any b t _ _ hr hs (by decide) (by decide)).mono ?_; rintro e w1 ⟨rfl, h1, hk⟩
  go_wp2_with fail
  refine wp_loop_rounds 1 ?_
  rw [rounds_succ]
  go_wp2_with (first | (go_at_call 78; refine (fine0 b t _ h1).mono ?_; rintro e w2 ⟨rfl, rfl⟩) | (go_at_call 31; refine (views0 _).mono ?_; rintro e w2 ⟨rfl, rfl⟩))
  go_ret
  exact ⟨rfl, h1, hk⟩
end Go.Proofs.Ytfpjdmplepepjaa

/-! WireEmptyC: Wire, of what has no lists: a context and a bag that are read. -/
namespace Go.Proofs.Ytfpjdmplepepjaa
open Go.RowKit

theorem infoCx : (Try.prog.info? 25).map (·.size) = some 2 := by kernel_rfl
theorem infoBg : (Try.prog.info? 27).map (·.size) = some 3 := by kernel_rfl
set_option maxRecDepth 100000 in
set_option maxHeartbeats 2000000 in
theorem rctx0 (b : Nat) (t : List UInt8) (w : World) (hr : IsRd w b ⟨ofL (0 :: 0 :: t), false⟩) (hs : t.length ≤ 100000) :
    Calls Try.prog 80 #[.pointer (some ⟨b, 0, none⟩)] w fun e w' => e = .returned (.agg #[.slice none 0 0, .slice none 0 0]) ∧ IsRd w' b ⟨ofL t, false⟩ ∧ Kept b w w' := by
  obtain ⟨x, hx⟩ := nm w.heap.size
  have hbx : b < x := by rw [hx.out]; exact hr.lt
  obtain ⟨w0, hw0⟩ := nm (w.alloc (.cells #[.slice none 0 0, .slice none 0 0] 25))
  have Kx : Hid (Blk w0 x #[.slice none 0 0, .slice none 0 0] 25) := by show Blk _ _ _ _; rw [hw0.out, hx.out]; exact Blk.new _ _ _
  have HR : Hid (IsRd w0 b ⟨ofL (0 :: 0 :: t), false⟩) := by show IsRd _ _ _; rw [hw0.out]; exact Blk.alloc hr _
  have HP : Hid (Kept b w w0) := by show Kept _ _ _; rw [hw0.out]; exact (Kept.refl _ _).alloc _
  clear hr
  go_enter Try.func80, Try.ntmps80
  go_upto_region 1 with fail
  rw [← hw0.out, ← hx.out]
  go_wp2_with fail
  refine (rrow0 b (0 :: t) _ HR.out (by simp only [List.length_cons]; omega)).mono ?_; rintro e w1 ⟨rfl, h1, hk⟩
  replace Kx := Lib.hid (hk.blk Kx.out (by omega))
  replace HP := Lib.hid (HP.out.trans hk)
  obtain ⟨c, hc⟩ := nm w1.heap.size
  have hbc : b < c := by rw [hc.out]; exact h1.lt
  have hxc : x < c := by rw [hc.out]; exact Kx.out.lt
  obtain ⟨w2, hw2⟩ := nm (w1.alloc (.cells #[.slice none 0 0, .slice none 0 0] 25))
  have Kc : Hid (Blk w2 c #[.slice none 0 0, .slice none 0 0] 25) := by show Blk _ _ _ _; rw [hw2.out, hc.out]; exact Blk.new _ _ _
  replace Kx : Hid (Blk w2 x #[.slice none 0 0, .slice none 0 0] 25) := by show Blk _ _ _ _; rw [hw2.out]; exact Kx.out.alloc _
  replace HR : Hid (IsRd w2 b ⟨ofL (0 :: t), false⟩) := by show IsRd _ _ _; rw [hw2.out]; exact Blk.alloc h1 _
  replace HP : Hid (Kept b w w2) := by show Kept _ _ _; rw [hw2.out]; exact HP.out.alloc _
  clear h1 hk
  go_upto_region 2 with fail
  rw [← hw2.out, ← hc.out]
  go_wp2_with fail
  refine (rrow0 b t _ HR.out (by omega)).mono ?_; rintro e w3 ⟨rfl, h3, hk⟩
  replace Kx := Lib.hid (hk.blk Kx.out (by omega))
  replace Kc := Lib.hid (hk.blk Kc.out (by omega))
  replace HP := Lib.hid (HP.out.trans hk)
  have cc0 : w3.cell? ⟨c, 0, none⟩ = some (.slice none 0 0) := Kc.out.cell 0
  have cf0 : w3.frozen? ⟨c, 0, none⟩ = false := Kc.out.free 0
  have cc1 : w3.cell? ⟨c, 1, none⟩ = some (.slice none 0 0) := Kc.out.cell 1
  have cf1 : w3.frozen? ⟨c, 1, none⟩ = false := Kc.out.free 1
  obtain ⟨w4, hw4⟩ := nm (w3.setCell ⟨c, 1, none⟩ (.slice none 0 0))
  have hwc : w.heap.size ≤ c := by rw [← hx.out]; omega
  replace Kx : Hid (Blk w4 x #[.slice none 0 0, .slice none 0 0] 25) := by show Blk _ _ _ _; rw [hw4.out]; exact Kx.out.setOther (by simp only; omega) _
  replace Kc : Hid (Blk w4 c #[.slice none 0 0, .slice none 0 0] 25) := by show Blk _ _ _ _; rw [hw4.out]; exact Kc.out.set 1 _
  replace HR : Hid (IsRd w4 b ⟨ofL t, false⟩) := by show IsRd _ _ _; rw [hw4.out]; exact Blk.setOther h3 (by simp only; omega) _
  replace HP : Hid (Kept b w w4) := by show Kept _ _ _; rw [hw4.out]; exact HP.out.setNew hwc _
  clear h3 hk
  go_upto_region 3 with fail
  rw [← hw4.out]
  clear cc0 cc1 cf0 cf1
  have cc0 : w4.cell? ⟨c, 0, none⟩ = some (.slice none 0 0) := Kc.out.cell 0
  have cc1 : w4.cell? ⟨c, 1, none⟩ = some (.slice none 0 0) := Kc.out.cell 1
  go_wp2_with (first | (go_at_call 78; refine (fine0 b t _ HR.out).mono ?_; rintro e w5 ⟨rfl, rfl⟩) | (go_at_call 66; refine (ctx0 _).mono ?_; rintro e w6 ⟨rfl, hB6⟩; have xb := Kx.out.below hB6 Kx.out.lt; have xc0 := xb.cell 0; have xc1 := xb.cell 1; have xf0 := xb.free 0; have xf1 := xb.free 1; have cb := Kc.out.below hB6 Kc.out.lt; have cc2 := cb.cell 0; have cc3 := cb.cell 1))
  refine bodyPost_ret (results_cell_row rfl _ _ x 25 #[.slice none 0 0, .slice none 0 0] (0, 0) _ rfl ((xb.set 0 _).set 1 _) Try.underlying25 rfl infoCx) rfl ?_
  exact ⟨rfl, (Blk.setOther (Blk.setOther (HR.out.below hB6 HR.out.lt) (by simp only; omega) _) (by simp only; omega) _), ((HP.out.trans (Kept.ofBelow hB6)).setNew (by rw [← hx.out]; exact Nat.le_refl _) _).setNew (by rw [← hx.out]; exact Nat.le_refl _) _⟩

set_option maxRecDepth 100000 in
set_option maxHeartbeats 2000000 in
theorem rbag0 (b : Nat) (t : List UInt8) (w : World) (hr : IsRd w b ⟨ofL (0 :: 0 :: 0 :: t), false⟩) (hs : t.length ≤ 10000) :
    Calls Try.prog 39 #[.pointer (some ⟨b, 0, none⟩)] w fun e w' => e = .returned (.agg #[.slice none 0 0, .slice none 0 0, .slice none 0 0]) ∧ IsRd w' b ⟨ofL t, false⟩ ∧ Kept b w w' := by
  obtain ⟨x, hx⟩ := nm w.heap.size
  have hbx : b < x := by rw [hx.out]; exact hr.lt
  obtain ⟨w0, hw0⟩ := nm (w.alloc (.cells #[.slice none 0 0, .slice none 0 0, .slice none 0 0] 27))
  have Kx : Hid (Blk w0 x #[.slice none 0 0, .slice none 0 0, .slice none 0 0] 27) := by show Blk _ _ _ _; rw [hw0.out, hx.out]; exact Blk.new _ _ _
  have HR : Hid (IsRd w0 b ⟨ofL (0 :: 0 :: 0 :: t), false⟩) := by show IsRd _ _ _; rw [hw0.out]; exact Blk.alloc hr _
  have HP : Hid (Kept b w w0) := by show Kept _ _ _; rw [hw0.out]; exact (Kept.refl _ _).alloc _
  clear hr
  go_enter Try.func39, Try.ntmps39
  go_upto_region 1 with fail
  rw [← hw0.out, ← hx.out]
  go_wp2_with fail
  refine (rctx0 b (0 :: t) _ HR.out (by simp only [List.length_cons]; omega)).mono ?_; rintro e w1 ⟨rfl, h1, hk⟩
  replace Kx := Lib.hid (hk.blk Kx.out (by omega))
  replace HP := Lib.hid (HP.out.trans hk)
  obtain ⟨c, hc⟩ := nm w1.heap.size
  have hbc : b < c := by rw [hc.out]; exact h1.lt
  have hxc : x < c := by rw [hc.out]; exact Kx.out.lt
  obtain ⟨w2, hw2⟩ := nm (w1.alloc (.cells #[.slice none 0 0, .slice none 0 0, .slice none 0 0] 27))
  have Kc : Hid (Blk w2 c #[.slice none 0 0, .slice none 0 0, .slice none 0 0] 27) := by show Blk _ _ _ _; rw [hw2.out, hc.out]; exact Blk.new _ _ _
  replace Kx : Hid (Blk w2 x #[.slice none 0 0, .slice none 0 0, .slice none 0 0] 27) := by show Blk _ _ _ _; rw [hw2.out]; exact Kx.out.alloc _
  replace HR : Hid (IsRd w2 b ⟨ofL (0 :: t), false⟩) := by show IsRd _ _ _; rw [hw2.out]; exact Blk.alloc h1 _
  replace HP : Hid (Kept b w w2) := by show Kept _ _ _; rw [hw2.out]; exact HP.out.alloc _
  clear h1 hk
  go_upto_region 2 with fail
  rw [← hw2.out, ← hc.out]
  go_wp2_with fail
  refine (rzero_any b t 1000 _ HR.out (by omega) (by decide) (by decide)).mono ?_; rintro e w3 ⟨rfl, h3, hk⟩
  replace Kx := Lib.hid (hk.blk Kx.out (by omega))
  replace Kc := Lib.hid (hk.blk Kc.out (by omega))
  replace HP := Lib.hid (HP.out.trans hk)
  replace HR := Lib.hid h3
  clear h3 hk
  have cc0 : w3.cell? ⟨c, 0, none⟩ = some (.slice none 0 0) := Kc.out.cell 0
  have cc1 : w3.cell? ⟨c, 1, none⟩ = some (.slice none 0 0) := Kc.out.cell 1
  have cc2 : w3.cell? ⟨c, 2, none⟩ = some (.slice none 0 0) := Kc.out.cell 2
  go_wp2_with fail
  refine wp_loop_rounds 1 ?_
  rw [rounds_succ]
  go_wp2_with (first | (go_at_call 78; refine (fine0 b t _ HR.out).mono ?_; rintro e w5 ⟨rfl, rfl⟩) | (go_at_call 29; refine (bag0 _).mono ?_; rintro e w6 ⟨rfl, hB6⟩; have xb := Kx.out.below hB6 Kx.out.lt; have xc0 := xb.cell 0; have xc1 := xb.cell 1; have xc2 := xb.cell 2; have xf0 := xb.free 0; have xf1 := xb.free 1; have xf2 := xb.free 2; have cb := Kc.out.below hB6 Kc.out.lt; have cc4 := cb.cell 0; have cc5 := cb.cell 1; have cc6 := cb.cell 2))
  refine bodyPost_ret (results_cell_row rfl _ _ x 27 #[.slice none 0 0, .slice none 0 0, .slice none 0 0] (0, 0) _ rfl (((xb.set 0 _).set 1 _).set 2 _) Try.underlying27 rfl infoBg) rfl ?_
  exact ⟨rfl, (Blk.setOther (Blk.setOther (Blk.setOther (HR.out.below hB6 HR.out.lt) (by simp only; omega) _) (by simp only; omega) _) (by simp only; omega) _), (((HP.out.trans (Kept.ofBelow hB6)).setNew (by rw [← hx.out]; exact Nat.le_refl _) _).setNew (by rw [← hx.out]; exact Nat.le_refl _) _).setNew (by rw [← hx.out]; exact Nat.le_refl _) _⟩
end Go.Proofs.Ytfpjdmplepepjaa

/-! WReadCtx: Contexts are read: the program's. -/
namespace Go.Proofs.Ytfpjdmplepepjaa
open Go.RowKit

/-- Of what was there only the blocks x, y, z may have turned. -/
structure Tri (x y z : Nat) (w w' : World) : Prop where
  size : w.heap.size ≤ w'.heap.size
  block : ∀ k, k < w.heap.size → k ≠ x → k ≠ y → k ≠ z → w'.heap[k]? = w.heap[k]?
theorem Tri.refl (x y z : Nat) (w : World) : Tri x y z w w := ⟨Nat.le_refl _, fun _ _ _ _ _ => rfl⟩
theorem Tri.trans {x y z : Nat} {a b c : World} (h : Tri x y z a b) (g : Tri x y z b c) : Tri x y z a c :=
  ⟨Nat.le_trans h.size g.size, fun k hk h1 h2 h3 => (g.block k (Nat.lt_of_lt_of_le hk h.size) h1 h2 h3).trans (h.block k hk h1 h2 h3)⟩
theorem Tri.ofBelow {x y z : Nat} {a b : World} (h : Below a.heap.size a b) : Tri x y z a b := ⟨h.size, fun k hk _ _ _ => h.block k hk⟩
theorem Tri.ofKept {x y z : Nat} {a b : World} (h : Kept x a b) : Tri x y z a b := ⟨h.size, fun k hk hx _ _ => h.block k hk hx⟩
theorem Tri.set {x y z : Nat} {a b : World} (h : Tri x y z a b) {p : Addr} (hp : p.block = x ∨ p.block = y ∨ p.block = z) (v : Value) : Tri x y z a (b.setCell p v) :=
  ⟨Nat.le_trans h.size (by simp), fun k hk h1 h2 h3 => (Below.heap_setCell _ _ _ _ (by rcases hp with e | e | e <;> (rw [e]; assumption))).trans (h.block k hk h1 h2 h3)⟩
theorem Tri.alloc {x y z : Nat} {a b : World} (h : Tri x y z a b) (o : Obj) : Tri x y z a (b.alloc o) := h.trans (Tri.ofBelow (bOld o))
theorem SlE.tri {α : Type} {enc : α → List Value} {k : Nat} {w w' : World} {ao : Option Addr} {xs : List α} {x y z : Nat} (h : SlE enc k w ao xs) (hn : ∀ a, ao = some a → a.block ≠ x ∧ a.block ≠ y ∧ a.block ≠ z) (ht : Tri x y z w w') : SlE enc k w' ao xs := by
  intro i hi
  obtain ⟨b, off, h1, h2, h3⟩ := h i hi
  obtain ⟨hx, hy, hz⟩ := hn _ h1
  refine ⟨b, off, h1, Nat.lt_of_lt_of_le h2 ht.size, fun j u hj c v hv => ?_⟩
  rw [← h3 j u hj c v hv]
  simp only [World.cell?, ht.block b h2 hx hy hz]
theorem SlP.row {w : World} {ao : Option Addr} {ps : List Dot2} (h : SlP w ao ps) : SlE eDot 2 w ao ps := by
  intro i hi
  obtain ⟨b, off, x, y, h1, h2, _⟩ := h.get i hi
  refine ⟨b, off, h1, h2, fun j p hj c u hu => ?_⟩
  subst h1
  have hj2 : j < ps.length := (List.getElem?_eq_some_iff.1 hj).1
  obtain ⟨b', off', x', y', e1, _, g0, g1, hp⟩ := h.get j hj2
  cases e1
  have hp2 := hp.out
  rw [hj] at hp2
  obtain rfl := Option.some.inj hp2
  match c, hu with
  | 0, hu => simp [eDot] at hu; rw [← hu]; exact g0
  | 1, hu => simp [eDot] at hu; rw [← hu]; exact g1
  | c + 2, hu => simp [eDot] at hu
theorem SlP.tri {w w' : World} {ao : Option Addr} {xs : List Dot2} {x y z : Nat} (h : SlP w ao xs) (hn : ∀ a, ao = some a → a.block ≠ x ∧ a.block ≠ y ∧ a.block ≠ z) (ht : Tri x y z w w') : SlP w' ao xs := (h.row.tri hn ht).pairs
/-- A context that is read. -/
def CtxR (p : List Dot2 × List Dot2) : Prop := (p.1.length ≤ 1000 ∧ p.2.length ≤ 1000) ∧ CtxP p.1 p.2
def ctxZ (p : List Dot2 × List Dot2) : List UInt8 := ctxL p.1 p.2
/-- What ctx.Read tells. -/
def CtxTells (b : Nat) (r : Rd) (w : World) (e : Ending) (w' : World) : Prop :=
  ∃ ab ac nb kb nc kc bs cl r', e = .returned (.agg #[.slice ab nb kb, .slice ac nc kc]) ∧ bs.length = nb ∧ cl.length = nc ∧ SlP w' ab bs ∧ SlP w' ac cl ∧ (∀ a, ab = some a → w.heap.size ≤ a.block) ∧ (∀ a, ac = some a → w.heap.size ≤ a.block) ∧ IsRd w' b r' ∧ Red CtxR ctxZ r r' (bs, cl) ∧ r'.left.size ≤ 1000000 ∧ Kept b w w'
theorem CtxP.dots {bs cl : List Dot2} (h : CtxP bs cl) : (∀ x ∈ bs, dotP x) ∧ ∀ x ∈ cl, dotP x := ⟨h.base.all (Nat.le_refl _), fun x hx => (h.cloud x hx).1⟩

set_option maxRecDepth 100000 in
set_option maxHeartbeats 4000000 in
theorem rctx_any (b : Nat) (r : Rd) (w : World) (hr : IsRd w b r) (hs : r.left.size ≤ 1000000) :
    Calls Try.prog 80 #[.pointer (some ⟨b, 0, none⟩)] w (CtxTells b r w) := by
  obtain ⟨x, hx⟩ := nm w.heap.size
  have hbx : b < x := by rw [hx.out]; exact hr.lt
  obtain ⟨w0, hw0⟩ := nm (w.alloc (.cells #[.slice none 0 0, .slice none 0 0] 25))
  have Kx : Hid (Blk w0 x #[.slice none 0 0, .slice none 0 0] 25) := by show Blk _ _ _ _; rw [hw0.out, hx.out]; exact Blk.new _ _ _
  have HR : Hid (IsRd w0 b r) := by show IsRd _ _ _; rw [hw0.out]; exact Blk.alloc hr _
  have HP : Hid (Kept b w w0) := by show Kept _ _ _; rw [hw0.out]; exact (Kept.refl _ _).alloc _
  have hwx : Hid (w.heap.size ≤ x) := Nat.le_of_eq hx.out.symm
  clear hr
  go_enter Try.func80, Try.ntmps80
  go_upto_region 1 with fail
  rw [← hw0.out, ← hx.out]
  go_wp2_with fail
  refine (readrow_red b r 1000 _ HR.out hs (by decide)).mono ?_; rintro e w1 ⟨ab, nb, kb, bs, r1, rfl, hnb, hsb, hfb, h1, hd1, hs1, hk⟩
  have hx0 : x < w0.heap.size := Kx.out.lt
  have HFB : Hid (∀ a, ab = some a → x < a.block) := fun a ha => by have := hfb a ha; omega
  replace Kx := Lib.hid (hk.blk Kx.out (by omega))
  replace HP := Lib.hid (HP.out.trans hk)
  obtain ⟨c, hc⟩ := nm w1.heap.size
  have hbc : b < c := by rw [hc.out]; exact h1.lt
  have hxc : x < c := by rw [hc.out]; exact Kx.out.lt
  have HSB : Hid (SlP w1 ab bs) := hsb
  have HLB : Hid (∀ a, ab = some a → 0 < bs.length → a.block < c) := by
    show ∀ a, _
    intro a ha h0
    obtain ⟨b', off', e, hl⟩ := HSB.out.base h0
    rw [ha] at e; cases e; rw [hc.out]; exact hl
  obtain ⟨w2, hw2⟩ := nm (w1.alloc (.cells #[.slice ab nb kb, .slice none 0 0] 25))
  have Kc : Hid (Blk w2 c #[.slice ab nb kb, .slice none 0 0] 25) := by show Blk _ _ _ _; rw [hw2.out, hc.out]; exact Blk.new _ _ _
  replace Kx : Hid (Blk w2 x #[.slice none 0 0, .slice none 0 0] 25) := by show Blk _ _ _ _; rw [hw2.out]; exact Kx.out.alloc _
  replace HR : Hid (IsRd w2 b r1) := by show IsRd _ _ _; rw [hw2.out]; exact Blk.alloc h1 _
  replace HP : Hid (Kept b w w2) := by show Kept _ _ _; rw [hw2.out]; exact HP.out.alloc _
  have HT : Hid (Tri b x c w1 w2) := by show Tri _ _ _ _ _; rw [hw2.out]; exact (Tri.refl _ _ _ _).alloc _
  have D1 := Lib.hid hd1
  have HNB := Lib.hid hnb
  clear h1 hk hsb hfb hd1 hnb
  go_upto_region 2 with fail
  rw [← hw2.out, ← hc.out]
  go_wp2_with fail
  refine (readrow_red b r1 1000 _ HR.out hs1 (by decide)).mono ?_; rintro e w3 ⟨ac, nc, kc, cl, r2, rfl, hnc, hsc, hfc, h3, hd2, hs2, hk⟩
  have hc2 : c < w2.heap.size := Kc.out.lt
  have HFC : Hid (∀ a, ac = some a → c < a.block) := fun a ha => by have := hfc a ha; omega
  replace Kx := Lib.hid (hk.blk Kx.out (by omega))
  replace Kc := Lib.hid (hk.blk Kc.out (by omega))
  replace HP := Lib.hid (HP.out.trans hk)
  replace HT := Lib.hid (HT.out.trans (Tri.ofKept hk))
  have cc0 : w3.cell? ⟨c, 0, none⟩ = some (.slice ab nb kb) := Kc.out.cell 0
  have cf0 : w3.frozen? ⟨c, 0, none⟩ = false := Kc.out.free 0
  have cc1 : w3.cell? ⟨c, 1, none⟩ = some (.slice none 0 0) := Kc.out.cell 1
  have cf1 : w3.frozen? ⟨c, 1, none⟩ = false := Kc.out.free 1
  obtain ⟨w4, hw4⟩ := nm (w3.setCell ⟨c, 1, none⟩ (.slice ac nc kc))
  have hwc : w.heap.size ≤ c := by rw [← hx.out]; omega
  replace Kx : Hid (Blk w4 x #[.slice none 0 0, .slice none 0 0] 25) := by show Blk _ _ _ _; rw [hw4.out]; exact Kx.out.setOther (by simp only; omega) _
  replace Kc : Hid (Blk w4 c #[.slice ab nb kb, .slice ac nc kc] 25) := by show Blk _ _ _ _; rw [hw4.out]; exact Kc.out.set 1 _
  replace HR : Hid (IsRd w4 b r2) := by show IsRd _ _ _; rw [hw4.out]; exact Blk.setOther h3 (by simp only; omega) _
  replace HP : Hid (Kept b w w4) := by show Kept _ _ _; rw [hw4.out]; exact HP.out.setNew hwc _
  replace HT : Hid (Tri b x c w1 w4) := by show Tri _ _ _ _ _; rw [hw4.out]; exact HT.out.set (.inr (.inr rfl)) _
  have HT2 : Hid (Tri b x c w3 w4) := by show Tri _ _ _ _ _; rw [hw4.out]; exact (Tri.refl _ _ _ _).set (p := ⟨c, 1, none⟩) (.inr (.inr rfl)) _
  have HNB2 : Hid (∀ a, ab = some a → 0 < bs.length → a.block ≠ b ∧ a.block ≠ x ∧ a.block ≠ c) := by
    show ∀ a, _
    intro a ha h0
    have h1 := HFB.out a ha
    have h2 := HLB.out a ha h0
    exact ⟨by omega, by omega, by omega⟩
  have HNC2 : Hid (∀ a, ac = some a → a.block ≠ b ∧ a.block ≠ x ∧ a.block ≠ c) := by
    show ∀ a, _
    intro a ha
    have h1 := HFC.out a ha
    exact ⟨by omega, by omega, by omega⟩
  have stay : ∀ w', Tri b x c w4 w' → SlP w' ab bs ∧ SlP w' ac cl := by
    intro w' ht
    refine ⟨?_, hsc.tri HNC2.out (HT2.out.trans ht)⟩
    rcases Nat.eq_zero_or_pos bs.length with h0 | h0
    · rw [List.length_eq_zero_iff.1 h0]; exact SlP.nil _ _
    · exact HSB.out.tri (fun a ha => HNB2.out a ha h0) (HT.out.trans ht)
  have STAY := Lib.hid stay
  have D2 := Lib.hid hd2
  have HNC := Lib.hid hnc
  have HSEQ : Hid (Red (fun p : List Dot2 × List Dot2 => RowP 1000 p.1 ∧ RowP 1000 p.2) (fun p => rowL dotL p.1 ++ rowL dotL p.2) r r2 (bs, cl)) := D1.out.seq D2.out ((tells_rowD (most := 1000) (by decide)).sub fun _ h => ⟨h.1, h.2.1⟩)
  have HIFF : Hid (∀ p : List Dot2 × List Dot2, ((RowP 1000 p.1 ∧ RowP 1000 p.2) ∧ CtxP p.1 p.2) ↔ CtxR p) := by
    show ∀ p : List Dot2 × List Dot2, _
    intro p
    refine ⟨fun h => ⟨⟨by have := h.1.1.1; omega, by have := h.1.2.1; omega⟩, h.2⟩, fun h => ⟨⟨⟨by have := h.1.1; omega, h.2.dots.1, h.2.asc1⟩, by have := h.1.2; omega, h.2.dots.2, h.2.asc2⟩, h.2⟩⟩
  have HTL : Hid (Tells (fun p : List Dot2 × List Dot2 => RowP 1000 p.1 ∧ RowP 1000 p.2) (fun p => rowL dotL p.1 ++ rowL dotL p.2)) :=
    ((tells_rowD (most := 1000) (by decide)).sub (Q := RowP 1000) fun _ h => ⟨h.1, h.2.1⟩).seq ((tells_rowD (most := 1000) (by decide)).sub (Q := RowP 1000) fun _ h => ⟨h.1, h.2.1⟩)
  have bad : ∀ w' r', r'.torn = true → r'.left.size ≤ 1000000 → (r2.torn = true ∨ ¬ CtxP bs cl) → IsRd w' b r' → Kept b w w' → CtxTells b r w (.returned (.agg #[.slice none 0 0, .slice none 0 0])) w' := by
    intro w' r' h1 h2 h3 h4 h5
    refine ⟨none, none, 0, 0, 0, 0, [], [], r', rfl, rfl, rfl, SlP.nil _ _, SlP.nil _ _, fun a h => (by cases h), fun a h => (by cases h), h4, ?_, h2, h5⟩
    exact (Red.fail (C := fun p : List Dot2 × List Dot2 => CtxP p.1 p.2) HSEQ.out HTL.out h3 h1).iff HIFF.out
  have BAD := Lib.hid bad
  have HWB : Hid (∀ a, ab = some a → w.heap.size ≤ a.block) := fun a ha => by have := HFB.out a ha; have := hwx.out; omega
  have HWC : Hid (∀ a, ac = some a → w.heap.size ≤ a.block) := fun a ha => by have := HFC.out a ha; omega
  clear h3 hk hsc hfc hd2 hnc stay bad HT HT2 HSB HLB HFB HFC HNB2 HNC2
  go_upto_region 3 with fail
  rw [← hw4.out]
  clear cc0 cc1 cf0 cf1
  obtain ⟨T, hT⟩ := nm r2.torn
  obtain ⟨t1, t2⟩ := r2.int_neg
  cases T
  rotate_left
  · have xc0 : w4.cell? ⟨x, 0, none⟩ = some (.slice none 0 0) := Kx.out.cell 0
    go_wp2_with fail
    refine (fine_is' true b r2 hT _ HR.out).mono ?_; rintro e w5 ⟨rfl, rfl⟩
    go_wp2_with fail
    refine (rint_any b r2 (-1) _ HR.out (by omega) (by decide)).mono ?_; rintro e w6 ⟨rfl, h6, hk6⟩
    have xb := hk6.blk Kx.out (by omega)
    clear xc0
    have xc0 := xb.cell 0
    have xc1 := xb.cell 1
    have xf0 := xb.free 0
    have xf1 := xb.free 1
    go_wp2_with fail
    refine bodyPost_ret (results_cell_row rfl _ _ x 25 #[.slice none 0 0, .slice none 0 0] (0, 0) _ rfl ((xb.set 0 _).set 1 _) Try.underlying25 rfl infoCx) rfl ?_
    exact BAD.out _ _ t1 (by omega) (.inl hT.out.symm) (Blk.setOther (Blk.setOther h6 (by simp only; omega) _) (by simp only; omega) _) (((HP.out.trans hk6).setNew hwx.out _).setNew hwx.out _)
  obtain ⟨i1, i2, i3⟩ := HSEQ.out.is hT.out.symm
  have HLN : Hid (bs.length ≤ 1000 ∧ cl.length ≤ 1000) := ⟨by have := i2.1.1; simp only at this; omega, by have := i2.2.1; simp only at this; omega⟩
  clear i1 i2 i3
  have hnb6 : nb ≤ 1000000 := by rw [← HNB.out]; have := HLN.out.1; omega
  have hnc6 : nc ≤ 1000000 := by rw [← HNC.out]; have := HLN.out.2; omega
  obtain ⟨B, hB, hBf, hBt⟩ := boolOf (CtxP bs cl)
  obtain ⟨E, hE⟩ := nm (errno B)
  obtain ⟨s1, s2⟩ := STAY.out w4 (Tri.refl _ _ _ _)
  have cc0 : w4.cell? ⟨c, 0, none⟩ = some (.slice ab nb kb) := Kc.out.cell 0
  have cc1 : w4.cell? ⟨c, 1, none⟩ = some (.slice ac nc kc) := Kc.out.cell 1
  go_wp2_with fail
  refine (fine_is' false b r2 hT _ HR.out).mono ?_; rintro e w5 ⟨rfl, rfl⟩
  go_wp2_with fail
  refine (ctxcheck_any ab ac nb kb nc kc bs cl HNB hnb6 HNC hnc6 B hB E hE _ s1 s2).mono ?_; rintro e w6 ⟨rfl, hB6⟩
  have hx4 := Kx.out.lt
  have hc4 := Kc.out.lt
  have hb4 := HR.out.lt
  replace Kx := Lib.hid (Kx.out.below hB6 hx4)
  replace Kc := Lib.hid (Kc.out.below hB6 hc4)
  replace HR : Hid (IsRd w6 b r2) := Blk.below HR.out hB6 hb4
  replace HP := Lib.hid (HP.out.trans (Kept.ofBelow hB6))
  have HT6 : Hid (Tri b x c w4 w6) := Tri.ofBelow hB6
  clear cc0 cc1 s1 s2 hB6
  have hE2 := hE.out
  cases B
  · obtain rfl : E = 1 := hE2
    have xc0 : w6.cell? ⟨x, 0, none⟩ = some (.slice none 0 0) := Kx.out.cell 0
    go_wp2_with fail
    refine (rint_any b r2 (-1) _ HR.out (by omega) (by decide)).mono ?_; rintro e w7 ⟨rfl, h7, hk7⟩
    have xb := hk7.blk Kx.out (by omega)
    clear xc0
    have xc0 := xb.cell 0
    have xc1 := xb.cell 1
    have xf0 := xb.free 0
    have xf1 := xb.free 1
    go_wp2_with fail
    refine bodyPost_ret (results_cell_row rfl _ _ x 25 #[.slice none 0 0, .slice none 0 0] (0, 0) _ rfl ((xb.set 0 _).set 1 _) Try.underlying25 rfl infoCx) rfl ?_
    exact BAD.out _ _ t1 (by omega) (.inr (hBf.out (by first | exact rfl | exact trivial))) (Blk.setOther (Blk.setOther h7 (by simp only; omega) _) (by simp only; omega) _) (((HP.out.trans hk7).setNew hwx.out _).setNew hwx.out _)
  · obtain rfl : E = 0 := hE2
    have xb := Kx.out
    have xc0 := xb.cell 0
    have xc1 := xb.cell 1
    have xf0 := xb.free 0
    have xf1 := xb.free 1
    have cc0 : w6.cell? ⟨c, 0, none⟩ = some (.slice ab nb kb) := Kc.out.cell 0
    have cc1 : w6.cell? ⟨c, 1, none⟩ = some (.slice ac nc kc) := Kc.out.cell 1
    go_wp2_with fail
    refine bodyPost_ret (results_cell_row rfl _ _ x 25 #[.slice ab nb kb, .slice ac nc kc] (0, 0) _ rfl ((xb.set 0 _).set 1 _) Try.underlying25 rfl infoCx) rfl ?_
    have h7 := STAY.out _ ((HT6.out.set (p := ⟨x, 0, none⟩) (.inr (.inl rfl)) (.slice ab nb kb)).set (p := ⟨x, 1, none⟩) (.inr (.inl rfl)) (.slice ac nc kc))
    refine ⟨ab, ac, nb, kb, nc, kc, bs, cl, r2, rfl, HNB.out, HNC.out, h7.1, h7.2, HWB.out, HWC.out, (Blk.setOther (Blk.setOther HR.out (by simp only; omega) _) (by simp only; omega) _), ?_, hs2, ((HP.out.setNew hwx.out _).setNew hwx.out _)⟩
    exact (Red.pass (C := fun p : List Dot2 × List Dot2 => CtxP p.1 p.2) HSEQ.out fun _ => hBt.out (by first | exact rfl | exact trivial)).iff HIFF.out
end Go.Proofs.Ytfpjdmplepepjaa

/-! WJoinL: A name more: what the document's join makes of a context. No program in sight. -/
namespace Go.Proofs.Ytfpjdmplepepjaa
open Go.RowKit

/-- Of names of one node, rising: all up to a number, and these beyond. -/
def runD : List Dot2 → Int → Int × List Dot2
  | [], u => (u, [])
  | p :: ps, u => if p.2 = u + 1 then runD ps (u + 1) else if u < p.2 then ((runD ps u).1, p :: (runD ps u).2) else runD ps u
def riseN (L : List Dot2) : Prop := L.Pairwise fun a b => a.2 < b.2
/-- Where all are above u + 1 they are kept. -/
theorem runD_far : ∀ (L : List Dot2) (u : Int), (∀ p ∈ L, u + 1 < p.2) → runD L u = (u, L)
  | [], _, _ => rfl
  | p :: ps, u, h => by
    have h1 := h p (by simp)
    rw [runD, if_neg (by omega), if_pos (by omega), runD_far ps u fun q hq => h q (by simp [hq])]
theorem runD_spec : ∀ (L : List Dot2) (u : Int), riseN L → u ≤ (runD L u).1 ∧ (runD L u).2.Sublist L ∧ (∀ p ∈ (runD L u).2, (runD L u).1 + 1 < p.2) ∧ (∀ p ∈ L, p.2 ≤ (runD L u).1 ∨ p ∈ (runD L u).2) ∧ ∀ m, u < m → m ≤ (runD L u).1 → ∃ p ∈ L, p.2 = m
  | [], u, _ => by
    refine ⟨Int.le_refl _, List.Sublist.refl _, fun p hp => (by cases hp), fun p hp => (by cases hp), fun m h1 h2 => ?_⟩
    simp only [runD] at h2
    omega
  | p :: ps, u, h => by
    obtain ⟨h1, h2⟩ := List.pairwise_cons.1 h
    by_cases he : p.2 = u + 1
    · rw [runD, if_pos he]
      obtain ⟨i1, i2, i3, i4, i5⟩ := runD_spec ps (u + 1) h2
      refine ⟨by omega, i2.cons _, i3, fun q hq => ?_, fun m m1 m2 => ?_⟩
      · rcases List.mem_cons.1 hq with rfl | hq
        · exact .inl (by omega)
        · exact i4 q hq
      · by_cases hm : m = u + 1
        · exact ⟨p, by simp, by omega⟩
        · obtain ⟨q, hq, e⟩ := i5 m (by omega) m2
          exact ⟨q, by simp [hq], e⟩
    · by_cases hl : u < p.2
      · rw [runD, if_neg he, if_pos hl, runD_far ps u fun q hq => by have := h1 q hq; omega]
        refine ⟨Int.le_refl _, List.Sublist.refl _, fun q hq => ?_, fun q hq => .inr hq, fun m m1 m2 => ?_⟩
        · rcases List.mem_cons.1 hq with rfl | hq
          · show u + 1 < _; omega
          · have := h1 q hq; show u + 1 < _; omega
        · exact absurd m2 (by show ¬ m ≤ u; omega)
      · rw [runD, if_neg he, if_neg hl]
        obtain ⟨i1, i2, i3, i4, i5⟩ := runD_spec ps u h2
        refine ⟨i1, i2.cons _, i3, fun q hq => ?_, fun m m1 m2 => ?_⟩
        · rcases List.mem_cons.1 hq with rfl | hq
          · exact .inl (by omega)
          · exact i4 q hq
        · obtain ⟨q, hq, e⟩ := i5 m m1 m2
          exact ⟨q, by simp [hq], e⟩
/-- A node's names of a row that rises. -/
def ofN (l : List Dot2) (z : Int) : List Dot2 := (sortD l).filter fun p => decide (p.1 = z)
theorem ofN_rise (l : List Dot2) (z : Int) : riseN (ofN l z) := by
  have h : Asc (ofN l z) := (asc_sortD l).filter _
  have h2 : ∀ p ∈ ofN l z, p.1 = z := fun p hp => by simpa using (List.mem_filter.1 hp).2
  unfold riseN
  refine List.Pairwise.imp_of_mem (fun {a b} ha hb hab => ?_) h
  have h3 := h2 a ha
  have h4 := h2 b hb
  unfold ltP at hab
  omega
theorem mem_ofN {l : List Dot2} {z : Int} {p : Dot2} : p ∈ ofN l z ↔ p ∈ l ∧ p.1 = z := by
  unfold ofN
  rw [List.mem_filter, mem_sortD]
  simp
/-- The nodes of a row, rising, each once. -/
def nodesL (l : List Dot2) : List Int := (sortD (l.map fun p => (p.1, 0))).map (·.1)
theorem nodesL_rise (l : List Dot2) : (nodesL l).Pairwise (· < ·) := by
  unfold nodesL
  rw [List.pairwise_map]
  refine List.Pairwise.imp_of_mem (fun {a b} ha hb hab => ?_) (asc_sortD (l.map fun p : Dot2 => (p.1, (0 : Int))))
  rw [mem_sortD] at ha hb
  obtain ⟨x, _, rfl⟩ := List.mem_map.1 ha
  obtain ⟨y, _, rfl⟩ := List.mem_map.1 hb
  unfold ltP at hab
  simp only at hab ⊢
  omega
theorem mem_nodesL {l : List Dot2} {z : Int} : z ∈ nodesL l ↔ ∃ p ∈ l, p.1 = z := by
  unfold nodesL
  rw [List.mem_map]
  constructor
  · rintro ⟨x, hx, rfl⟩
    rw [mem_sortD] at hx
    obtain ⟨y, hy, rfl⟩ := List.mem_map.1 hx
    exact ⟨y, hy, rfl⟩
  · rintro ⟨p, hp, rfl⟩
    exact ⟨(p.1, 0), by rw [mem_sortD]; exact List.mem_map.2 ⟨p, hp, rfl⟩, rfl⟩
theorem nodesL_length (l : List Dot2) : (nodesL l).length ≤ l.length := by
  unfold nodesL
  rw [List.length_map]
  exact Nat.le_trans (sortD_length _) (by rw [List.length_map]; exact Nat.le_refl _)
/-- What the join tells of a node. -/
def nodeD (bs bs2 C : List Dot2) (z : Int) : Int × List Dot2 := runD (ofN C z) (max (baseD bs z) (baseD bs2 z))
def baseJ (bs bs2 C : List Dot2) (nodes : List Int) : List Dot2 := nodes.flatMap fun z => if 0 < (nodeD bs bs2 C z).1 then [(z, (nodeD bs bs2 C z).1)] else []
def cloudJ (bs bs2 C : List Dot2) (nodes : List Int) : List Dot2 := nodes.flatMap fun z => (nodeD bs bs2 C z).2
theorem baseJ_snoc (bs bs2 C : List Dot2) (nodes : List Int) (z : Int) : baseJ bs bs2 C (nodes ++ [z]) = baseJ bs bs2 C nodes ++ if 0 < (nodeD bs bs2 C z).1 then [(z, (nodeD bs bs2 C z).1)] else [] := by simp [baseJ]
theorem cloudJ_snoc (bs bs2 C : List Dot2) (nodes : List Int) (z : Int) : cloudJ bs bs2 C (nodes ++ [z]) = cloudJ bs bs2 C nodes ++ (nodeD bs bs2 C z).2 := by simp [cloudJ]
theorem mem_baseJ {bs bs2 C : List Dot2} {nodes : List Int} {x : Dot2} : x ∈ baseJ bs bs2 C nodes ↔ x.1 ∈ nodes ∧ x.2 = (nodeD bs bs2 C x.1).1 ∧ 0 < x.2 := by
  unfold baseJ
  rw [List.mem_flatMap]
  constructor
  · rintro ⟨z, hz, h⟩
    split at h
    · rename_i h0
      obtain rfl := List.mem_singleton.1 h
      exact ⟨hz, rfl, h0⟩
    · cases h
  · rintro ⟨h1, h2, h3⟩
    refine ⟨x.1, h1, ?_⟩
    rw [if_pos (by rw [← h2]; exact h3), ← h2]
    simp
theorem mem_cloudJ {bs bs2 C : List Dot2} {nodes : List Int} {x : Dot2} : x ∈ cloudJ bs bs2 C nodes ↔ x.1 ∈ nodes ∧ x ∈ (nodeD bs bs2 C x.1).2 := by
  unfold cloudJ
  rw [List.mem_flatMap]
  have hk : ∀ z, ∀ p ∈ (nodeD bs bs2 C z).2, p.1 = z := fun z p hp => (mem_ofN.1 (((runD_spec _ _ (ofN_rise C z)).2.1).subset hp)).2
  constructor
  · rintro ⟨z, hz, h⟩
    obtain rfl := hk z x h
    exact ⟨hz, h⟩
  · rintro ⟨h1, h2⟩
    exact ⟨x.1, h1, h2⟩
theorem asc_parts {f : Int → List Dot2} (h1 : ∀ z, Asc (f z)) (h2 : ∀ z, ∀ p ∈ f z, p.1 = z) : ∀ nodes : List Int, nodes.Pairwise (· < ·) → Asc (nodes.flatMap f)
  | [], _ => List.Pairwise.nil
  | z :: zs, h => by
    obtain ⟨g1, g2⟩ := List.pairwise_cons.1 h
    rw [List.flatMap_cons]
    refine List.pairwise_append.2 ⟨h1 z, asc_parts h1 h2 zs g2, fun a ha b hb => ?_⟩
    obtain ⟨y, hy, hb⟩ := List.mem_flatMap.1 hb
    have e1 := h2 z a ha
    have e2 := h2 y b hb
    have := g1 y hy
    exact .inl (by rw [e1, e2]; exact this)
theorem asc_cloudJ (bs bs2 C : List Dot2) {nodes : List Int} (h : nodes.Pairwise (· < ·)) : Asc (cloudJ bs bs2 C nodes) := by
  refine asc_parts (fun z => ?_) (fun z p hp => (mem_ofN.1 (((runD_spec _ _ (ofN_rise C z)).2.1).subset hp)).2) nodes h
  have h1 : Asc (ofN C z) := (asc_sortD C).filter _
  exact h1.sublist (runD_spec _ _ (ofN_rise C z)).2.1
theorem asc_baseJ (bs bs2 C : List Dot2) {nodes : List Int} (h : nodes.Pairwise (· < ·)) : Asc (baseJ bs bs2 C nodes) := by
  refine asc_parts (fun z => ?_) (fun z p hp => ?_) nodes h
  · split
    · exact List.pairwise_singleton _ _
    · exact List.Pairwise.nil
  · split at hp
    · obtain rfl := List.mem_singleton.1 hp; rfl
    · cases hp
theorem baseD_mem {bs : List Dot2} {z : Int} : baseD bs z = 0 ∨ ∃ p ∈ bs, p.1 = z ∧ baseD bs z = p.2 := by
  unfold baseD
  cases h : bs.find? (fun p => decide (p.1 = z)) with
  | none => exact .inl rfl
  | some p => exact .inr ⟨p, List.mem_of_find?_eq_some h, by simpa using List.find?_some h, rfl⟩
theorem baseD_only {bs : List Dot2} {p : Dot2} (hp : p ∈ bs) (hu : ∀ q ∈ bs, q.1 = p.1 → q = p) : baseD bs p.1 = p.2 := by
  rcases baseD_mem (bs := bs) (z := p.1) with h | ⟨q, hq, e1, e2⟩
  · unfold baseD at h ⊢
    cases hf : bs.find? (fun q => decide (q.1 = p.1)) with
    | none =>
      have := List.find?_eq_none.1 hf p hp
      simp at this
    | some q =>
      have h1 := List.mem_of_find?_eq_some hf
      have h2 : q.1 = p.1 := by simpa using List.find?_some hf
      rw [hu q h1 h2]
  · rw [e2, hu q hq e1]
theorem baseJ_base {bs bs2 C : List Dot2} {nodes : List Int} (z : Int) (h0 : 0 ≤ (nodeD bs bs2 C z).1) : baseD (baseJ bs bs2 C nodes) z = if z ∈ nodes then (nodeD bs bs2 C z).1 else 0 := by
  split
  · rename_i hz
    by_cases h1 : 0 < (nodeD bs bs2 C z).1
    · exact baseD_only (p := (z, (nodeD bs bs2 C z).1)) (mem_baseJ.2 ⟨hz, rfl, h1⟩) fun q hq e => by
        obtain ⟨_, g2, _⟩ := mem_baseJ.1 hq
        simp only at e
        rw [e] at g2
        exact Prod.ext e g2
    · rw [baseD_none]
      · omega
      · intro p hp e
        obtain ⟨_, g2, g3⟩ := mem_baseJ.1 hp
        rw [e] at g2
        omega
  · rename_i hz
    exact baseD_none fun p hp e => hz (by rw [← e]; exact (mem_baseJ.1 hp).1)

/-- A name more: the context may be, and has all that it had, and the name. -/
theorem join_one {bs cl : List Dot2} {d : Dot2} (hc : CtxP bs cl) (hd : dotP d) (nodes : List Int) (hn : nodes = nodesL ((bs ++ []) ++ (cl ++ [d]))) :
    CtxP (baseJ bs [] (cl ++ [d]) nodes) (cloudJ bs [] (cl ++ [d]) nodes) ∧ ∀ x, hasD (baseJ bs [] (cl ++ [d]) nodes) (cloudJ bs [] (cl ++ [d]) nodes) x ↔ hasD bs cl x ∨ x = d := by
  have hr : nodes.Pairwise (· < ·) := by rw [hn]; exact nodesL_rise _
  have hm : ∀ z, z ∈ nodes ↔ ∃ p ∈ bs ++ (cl ++ [d]), p.1 = z := by intro z; rw [hn, mem_nodesL, List.append_nil]
  obtain ⟨hdb, hdc⟩ := hc.dots
  have hC : ∀ p ∈ cl ++ [d], dotP p := by
    intro p hp
    rcases List.mem_append.1 hp with h | h
    · exact hdc p h
    · obtain rfl := List.mem_singleton.1 h; exact hd
  have hb0 : ∀ z, 0 ≤ baseD bs z ∧ baseD bs z ≤ 1099511627776 := by
    intro z
    rcases baseD_mem (bs := bs) (z := z) with h | ⟨p, hp, _, e⟩
    · rw [h]; decide
    · have := (hdb p hp).le; rw [e]; omega
  have hmx : ∀ z, max (baseD bs z) (baseD [] z) = baseD bs z := by
    intro z
    have e : baseD [] z = 0 := rfl
    have := (hb0 z).1
    rw [e]; omega
  have hsp := fun z => runD_spec (ofN (cl ++ [d]) z) (max (baseD bs z) (baseD [] z)) (ofN_rise _ z)
  have hnd : ∀ z, nodeD bs [] (cl ++ [d]) z = runD (ofN (cl ++ [d]) z) (max (baseD bs z) (baseD [] z)) := fun _ => rfl
  have hk0 : ∀ z, 0 ≤ (nodeD bs [] (cl ++ [d]) z).1 := by
    intro z
    rw [hnd]
    have := (hsp z).1
    rw [hmx] at this ⊢
    have := (hb0 z).1
    omega
  have hkm : ∀ z, (nodeD bs [] (cl ++ [d]) z).1 ≤ 1099511627776 := by
    intro z
    rw [hnd]
    obtain ⟨s1, _, _, _, s5⟩ := hsp z
    rw [hmx] at s1 s5 ⊢
    have := hb0 z
    by_cases h : baseD bs z < (runD (ofN (cl ++ [d]) z) (baseD bs z)).1
    · obtain ⟨p, hp, e⟩ := s5 _ h (Int.le_refl _)
      have := (hC p (mem_ofN.1 hp).1).le
      omega
    · omega
  have hz1 : ∀ z ∈ nodes, 1 ≤ z ∧ z ≤ 1099511627776 := by
    intro z hz
    obtain ⟨p, hp, rfl⟩ := (hm z).1 hz
    rcases List.mem_append.1 hp with h | h
    · have := (hdb p h).le; omega
    · have := (hC p h).le; omega
  have hdb2 : ∀ x ∈ baseJ bs [] (cl ++ [d]) nodes, dotP x := by
    intro x hx
    obtain ⟨g1, g2, g3⟩ := mem_baseJ.1 hx
    have h1 := hz1 x.1 g1
    have h2 := hkm x.1
    rw [← g2] at h2
    unfold dotP okD
    exact decide_eq_true (by omega)
  have hasc := asc_baseJ bs [] (cl ++ [d]) hr
  have hup : ∀ z, uptoD (baseJ bs [] (cl ++ [d]) nodes) z = if z ∈ nodes then (nodeD bs [] (cl ++ [d]) z).1 else 0 := by
    intro z
    rw [← base_upto hasc hdb2 z, baseJ_base z (hk0 z)]
  have hupo : ∀ z, uptoD bs z = baseD bs z := fun z => (base_upto hc.asc1 hdb z).symm
  have hcm : ∀ x ∈ cloudJ bs [] (cl ++ [d]) nodes, x ∈ cl ++ [d] ∧ x.1 ∈ nodes ∧ (nodeD bs [] (cl ++ [d]) x.1).1 + 1 < x.2 := by
    intro x hx
    obtain ⟨g1, g2⟩ := mem_cloudJ.1 hx
    rw [hnd] at g2
    obtain ⟨_, s2, s3, _, _⟩ := hsp x.1
    exact ⟨(mem_ofN.1 (s2.subset g2)).1, g1, s3 x g2⟩
  refine ⟨⟨hasc, asc_cloudJ bs [] (cl ++ [d]) hr, fun i x hi hx => ⟨hdb2 x (List.mem_of_getElem? hx), fun j y hij hy e => ?_⟩, fun x hx => ?_⟩, fun x => ?_⟩
  · obtain ⟨g1, g2⟩ := get_of hx
    obtain ⟨g3, g4⟩ := get_of hy
    have := asc_mono hasc (show j < i by omega) g1
    rw [g2, g4] at this
    have m1 := mem_baseJ.1 (List.mem_of_getElem? hx)
    have m2 := mem_baseJ.1 (List.mem_of_getElem? hy)
    have e2 : y.2 = x.2 := by rw [m1.2.1, m2.2.1, e]
    unfold ltP at this
    omega
  · obtain ⟨g1, g2, g3⟩ := hcm x hx
    rw [hup, if_pos g2]
    exact ⟨hC x g1, g3⟩
  · have hin : ∀ x : Dot2, dotP x → x.1 ∈ nodes → ((x ∈ cloudJ bs [] (cl ++ [d]) nodes ∨ x.2 ≤ (nodeD bs [] (cl ++ [d]) x.1).1) ↔ (x ∈ cl ++ [d] ∨ x.2 ≤ baseD bs x.1)) := by
      intro x hx hz
      obtain ⟨s1, s2, s3, s4, s5⟩ := hsp x.1
      rw [← hnd, hmx] at s1 s5
      rw [← hnd] at s2 s3 s4
      constructor
      · rintro (h | h)
        · exact .inl (hcm x h).1
        · by_cases hb : x.2 ≤ baseD bs x.1
          · exact .inr hb
          · obtain ⟨p, hp, e⟩ := s5 x.2 (by omega) h
            obtain ⟨p1, p2⟩ := mem_ofN.1 hp
            have : p = x := Prod.ext p2 e
            exact .inl (this ▸ p1)
      · rintro (h | h)
        · rcases s4 x (mem_ofN.2 ⟨h, rfl⟩) with g | g
          · exact .inr g
          · exact .inl (mem_cloudJ.2 ⟨hz, g⟩)
        · exact .inr (by omega)
    by_cases hz : x.1 ∈ nodes
    · unfold hasD
      rw [hup, if_pos hz, hupo]
      constructor
      · rintro ⟨h1, h2⟩
        rcases (hin x h1 hz).1 h2 with h | h
        · rcases List.mem_append.1 h with h | h
          · exact .inl ⟨h1, .inl h⟩
          · exact .inr (List.mem_singleton.1 h)
        · exact .inl ⟨h1, .inr h⟩
      · rintro (⟨h1, h2⟩ | rfl)
        · refine ⟨h1, (hin x h1 hz).2 ?_⟩
          rcases h2 with h | h
          · exact .inl (List.mem_append.2 (.inl h))
          · exact .inr h
        · exact ⟨hd, (hin _ hd hz).2 (.inl (by simp))⟩
    · have hno : ∀ p ∈ bs ++ (cl ++ [d]), p.1 ≠ x.1 := fun p hp e => hz ((hm x.1).2 ⟨p, hp, e⟩)
      have hne : x ≠ d := fun e => hno d (by simp) (by rw [e])
      have hb : baseD bs x.1 = 0 := baseD_none fun p hp => hno p (List.mem_append.2 (.inl hp))
      unfold hasD
      rw [hup, if_neg hz, hupo, hb]
      constructor
      · rintro ⟨h1, h2⟩
        rcases h2 with h | h
        · exact absurd (mem_cloudJ.1 h).1 hz
        · have := h1.le; omega
      · rintro (⟨h1, h2⟩ | e)
        · rcases h2 with h | h
          · exact absurd rfl (hno x (List.mem_append.2 (.inr (List.mem_append.2 (.inl h)))))
          · have := h1.le; omega
        · exact absurd e hne
/-- How many. -/
theorem nodup_len : ∀ (a b : List Dot2), a.Nodup → (∀ x ∈ a, x ∈ b) → a.length ≤ b.length
  | [], _, _, _ => Nat.zero_le _
  | x :: a, b, h, hs => by
    obtain ⟨h1, h2⟩ := List.nodup_cons.1 h
    have hx := hs x (by simp)
    have := nodup_len a (b.erase x) h2 fun y hy => (List.mem_erase_of_ne (by rintro rfl; exact h1 hy)).2 (hs y (by simp [hy]))
    rw [List.length_erase_of_mem hx] at this
    have := List.length_pos_of_mem hx
    rw [List.length_cons]
    omega
theorem baseJ_length (bs bs2 C : List Dot2) : ∀ nodes : List Int, (baseJ bs bs2 C nodes).length ≤ nodes.length
  | [] => by simp [baseJ]
  | z :: zs => by
    have := baseJ_length bs bs2 C zs
    unfold baseJ at this ⊢
    rw [List.flatMap_cons, List.length_append, List.length_cons]
    split
    · rw [List.length_singleton]; omega
    · rw [List.length_nil]; omega
theorem cloudJ_length {bs bs2 C : List Dot2} {nodes : List Int} (h : nodes.Pairwise (· < ·)) : (cloudJ bs bs2 C nodes).length ≤ C.length := by
  have h1 := asc_nodup (asc_cloudJ bs bs2 C h)
  refine nodup_len _ _ h1 fun x hx => ?_
  exact (mem_ofN.1 (((runD_spec _ _ (ofN_rise C x.1)).2.1).subset (mem_cloudJ.1 hx).2)).1
end Go.Proofs.Ytfpjdmplepepjaa

