/- Views: may a peer be; may a view be. (and what stands on it: 9 texts in one) -/
import Derived.Laws.Cover3
import Derived.Laws.Tables
import Derived.Laws.CopyOwn
import Derived.Outline
import Derived.Deep.AppendLies
import Derived.Test.YtfpjdmplepepjaaGreatK4
import Derived.Test.YtfpjdmplepepjaaGreatK2
import Derived.Test.YtfpjdmplepepjaaGreatK1
/-! WVwCheck: Views: may a peer be; may a view be. -/
namespace Go.Proofs.YtfpjdmplepepjaaGreat
open Go.RowKit

set_option maxRecDepth 100000 in
set_option maxHeartbeats 400000 in
theorem vwithin_any (n l m : Int) (w : World) :
    Calls Tryz.prog 94 #[.int .i64 n, .int .i64 l, .int .i64 m] w fun e w' => e = .returned (.bool (decide (l ≤ n ∧ n ≤ m))) ∧ w' = w := by
  by_cases h1 : l ≤ n
  · have g1 : n ≥ l := h1
    obtain ⟨B, hB⟩ := nm (decide (n ≤ m))
    have hE : Hid (decide (l ≤ n ∧ n ≤ m) = B) := by show _ = _; rw [hB.out]; exact decide_eq_decide.2 ⟨fun h => h.2, fun h => ⟨h1, h⟩⟩
    rw [hE.out]
    have hb := hB.out.symm
    go_enter Tryz.func94, Tryz.ntmps94
    go_wp2_with fail
    go_ret
    exact ⟨rfl, rfl⟩
  · have hE : decide (l ≤ n ∧ n ≤ m) = false := decide_eq_false fun h => h1 h.1
    rw [hE]
    go_enter Tryz.func94, Tryz.ntmps94
    go_wp2_with fail
    go_ret
    exact ⟨rfl, rfl⟩

set_option maxRecDepth 100000 in
set_option maxHeartbeats 1000000 in
theorem vmay_any (x y z : Int) (r : Bool) (hr : Hid (r = true ↔ mayV (x, y, z))) (w : World) :
    Calls Tryz.prog 70 #[.agg #[.int .i64 x, .int .i64 y, .int .i64 z]] w fun e w' => e = .returned (.bool r) ∧ Below w.heap.size w w' := by
  obtain ⟨b1, h1⟩ := nm (decide (1 ≤ x ∧ x ≤ 1099511627776))
  obtain ⟨b2, h2⟩ := nm (decide (0 ≤ y ∧ y ≤ 1073741824))
  obtain ⟨b3, h3⟩ := nm (decide (0 ≤ z ∧ z ≤ 2))
  have hE : r = (b1 && (b2 && b3)) := by
    rw [Bool.eq_iff_iff, hr.out, h1.out, h2.out, h3.out]
    simp only [Bool.and_eq_true, decide_eq_true_iff]
    rfl
  have H1 : Hid (∀ w, Calls Tryz.prog 94 #[.int .i64 x, .int .i64 1, .int .i64 1099511627776] w fun e w' => e = .returned (.bool b1) ∧ w' = w) := by intro w; rw [h1.out]; exact vwithin_any _ _ _ w
  have H2 : Hid (∀ w, Calls Tryz.prog 94 #[.int .i64 y, .int .i64 0, .int .i64 1073741824] w fun e w' => e = .returned (.bool b2) ∧ w' = w) := by intro w; rw [h2.out]; exact vwithin_any _ _ _ w
  have H3 : Hid (∀ w, Calls Tryz.prog 94 #[.int .i64 z, .int .i64 0, .int .i64 2] w fun e w' => e = .returned (.bool b3) ∧ w' = w) := by intro w; rw [h3.out]; exact vwithin_any _ _ _ w
  subst hE
  clear hr h1 h2 h3
  cases b1
  · go_enter Tryz.func70, Tryz.ntmps70
    go_wp2_with (go_at_call 94; first | (with_reducible (refine (H1.out _).mono ?_); rintro e w2 ⟨rfl, rfl⟩))
    go_ret
    exact ⟨rfl, bOld _⟩
  · cases b2
    · go_enter Tryz.func70, Tryz.ntmps70
      go_wp2_with (go_at_call 94; first | (with_reducible (refine (H1.out _).mono ?_); rintro e w2 ⟨rfl, rfl⟩) | (with_reducible (refine (H2.out _).mono ?_); rintro e w2 ⟨rfl, rfl⟩))
      go_ret
      exact ⟨rfl, bOld _⟩
    · go_enter Tryz.func70, Tryz.ntmps70
      go_wp2_with (go_at_call 94; first | (with_reducible (refine (H1.out _).mono ?_); rintro e w2 ⟨rfl, rfl⟩) | (with_reducible (refine (H2.out _).mono ?_); rintro e w2 ⟨rfl, rfl⟩) | (with_reducible (refine (H3.out _).mono ?_); rintro e w2 ⟨rfl, rfl⟩))
      go_ret
      exact ⟨rfl, bOld _⟩

set_option maxRecDepth 100000 in
set_option maxHeartbeats 4000000 in
theorem viewcheck_any (ao : Option Addr) (n kk : Nat) (xs : List Peer3) (hn : Hid (xs.length = n)) (hm : n ≤ 1000000) (r : Bool) (hr : Hid (r = true ↔ ViewP xs)) (E : Int) (hE : Hid (E = errno r)) (w : World) (hs : SlE ePeer 3 w ao xs) :
    Calls Tryz.prog 39 #[.slice ao n kk] w fun e w' => e = .returned (.int .i64 E) ∧ Below w.heap.size w w' := by
  have HS0 := Lib.hid hs
  clear hs
  by_cases hmost : n ≤ 64
  rotate_left
  · obtain rfl : r = false := notB hr.out fun h => hmost (by rw [← hn.out]; exact h.many)
    obtain rfl := hE.out
    have hmd : decide ((n : Int) ≤ 64) = false := decide_eq_false (by omega)
    have hmd2 : decide (64 < (n : Int)) = true := decide_eq_true (by omega)
    go_enter Tryz.func39, Tryz.ntmps39
    go_wp2_with fail
    go_ret
    exact ⟨rfl, Below.refl _ _⟩
  have HM : Hid (n ≤ 64) := hmost
  have hmd2 : decide (64 < (n : Int)) = false := decide_eq_false (by omega)
  go_enter Tryz.func39, Tryz.ntmps39
  go_wp2_with fail
  clear hmd2 hmost
  go_loopw [10] (fun i wr => ∃ k : Nat, k ≤ n ∧ i = .int .i64 (k : Int) ∧ Below w.heap.size w wr ∧ Hid (Chk mayV (fun y p => y.1 < p.1) xs k)) (fun i _ => n - (intOf i).toNat)
  case atStart => exact ⟨0, by omega, rfl, Below.refl _ _, Lib.hid Chk.zero⟩
  case round =>
    obtain ⟨k, hk, rfl, hB, hI⟩ := hrel
    by_cases hlt : k < n
    · obtain ⟨b, off, ⟨p, q, t⟩, rfl, hbl, hp, hcells⟩ := (HS0.out.below hB).get k (by rw [hn.out]; exact hlt)
      have d0 : wr.cell? ⟨b, off + k * 3, none⟩ = some (.int .i64 p) := hcells 0 _ rfl
      have d1 : wr.cell? ⟨b, off + k * 3 + 1, none⟩ = some (.int .i64 q) := hcells 1 _ rfl
      have d2 : wr.cell? ⟨b, off + k * 3 + 2, none⟩ = some (.int .i64 t) := hcells 2 _ rfl
      clear hcells
      obtain ⟨y, hy⟩ := nm wr.heap.size
      obtain ⟨w3, hw3⟩ := nm (wr.alloc (.cells #[.int .i64 p, .int .i64 q, .int .i64 t] 77))
      have Ky : Hid (Blk w3 y #[.int .i64 p, .int .i64 q, .int .i64 t] 77) := blkN hw3.out hy.out
      have HB3 : Hid (Below w.heap.size w w3) := by rw [hw3.out]; exact bNew hB _
      have e0 : w3.cell? ⟨y, 0, none⟩ = some (.int .i64 p) := Ky.out.cell 0
      have e1 : w3.cell? ⟨y, 1, none⟩ = some (.int .i64 q) := Ky.out.cell 1
      have e2 : w3.cell? ⟨y, 2, none⟩ = some (.int .i64 t) := Ky.out.cell 2
      clear hB
      have KEEP : Hid (∀ wb : World, Below w3.drew.heap.size w3.drew wb → wb.cell? ⟨y, 0, none⟩ = some (.int .i64 p) ∧ wb.cell? ⟨y, 1, none⟩ = some (.int .i64 q) ∧ wb.cell? ⟨y, 2, none⟩ = some (.int .i64 t)) := by
        show ∀ wb : World, _
        intro wb h
        have h2 := Blk.below (w := w3.drew) Ky.out h Ky.out.lt
        exact ⟨h2.cell 0, h2.cell 1, h2.cell 2⟩
      by_cases hC : mayV (p, q, t)
      rotate_left
      · have HCf := Lib.hid hC
        clear hC
        obtain rfl : r = false := notB hr.out fun h => Chk.not_g (by rw [hn.out]; exact hlt) hp.out (HCf.out) h.each
        obtain rfl := hE.out
        go_wp2_with fail
        rw [← hw3.out, ← hy.out]
        refine wp_region_noPanic ?_
        refine wp_region_held_drew (S := fun w' => w'.cell? ⟨y, 0, none⟩ = some (.int .i64 p) ∧ w'.cell? ⟨y, 1, none⟩ = some (.int .i64 q) ∧ w'.cell? ⟨y, 2, none⟩ = some (.int .i64 t)) (by kernel_rfl) (⟨e0, e1, e2⟩) (fun hHeld => ?_)
        refine wpAnyH_take (i := 0) (v := ?_) (takeL rfl) (by kernel_rfl) (by kernel_rfl) (by kernel_rfl) (fun _ _ _ h => h) (Or.inl ⟨by rfl, ?_⟩) (by assumption) ?_
        rotate_left
        · (intro w hSw; (try dsimp only at hSw); first | (go_simp; done) | (go_simp; with_reducible rfl))
        try simp only [Act.put, List.setIfInBounds_toArray, List.set_cons_zero, List.set_cons_succ]
        refine wpAnyH_ready (rs := [1]) (by kernel_rfl) (by simp) ?_
        refine AllReadyH.cons (takeL rfl) (fun K hK => ?_) AllReadyH.nil
        go_simp
        refine (vmay_any p q t false (itF HCf) _).mono ?_; rintro e w4 ⟨rfl, hB4⟩
        go_wp2_with fail
        refine hK.out _ _ (KEEP.out _ hB4) (fun hHeld => ?_)
        clear hK K
        refine wpAnyH_take (i := 2) (v := ?_) (takeL rfl) (by kernel_rfl) (by kernel_rfl) (by kernel_rfl) (fun _ _ _ h => h) (Or.inl ⟨by rfl, ?_⟩) (by assumption) ?_
        rotate_left
        · (intro w hSw; (try dsimp only at hSw); first | (go_simp; done) | (go_simp; with_reducible rfl))
        try simp only [Act.put, List.setIfInBounds_toArray, List.set_cons_zero, List.set_cons_succ]
        refine wpAnyH_take (i := 3) (v := ?_) (takeL rfl) (by kernel_rfl) (by kernel_rfl) (by kernel_rfl) (fun _ _ _ h => h) (Or.inl ⟨by rfl, ?_⟩) (by assumption) ?_
        rotate_left
        · (intro w hSw; (try dsimp only at hSw); first | (go_simp; done) | (go_simp; with_reducible rfl))
        try simp only [Act.put, List.setIfInBounds_toArray, List.set_cons_zero, List.set_cons_succ]
        refine wpAnyH_take (i := 4) (v := undef) (takeL rfl) (by kernel_rfl) (by kernel_rfl) (by kernel_rfl) (fun _ _ _ h => h) (Or.inr ⟨by rfl, rfl⟩) (by assumption) ?_
        try simp only [Act.put, List.setIfInBounds_toArray, List.set_cons_zero, List.set_cons_succ]
        refine wpAnyH_take (i := 5) (v := undef) (takeL rfl) (by kernel_rfl) (by kernel_rfl) (by kernel_rfl) (fun _ _ _ h => h) (Or.inr ⟨by rfl, rfl⟩) (by assumption) ?_
        try simp only [Act.put, List.setIfInBounds_toArray, List.set_cons_zero, List.set_cons_succ]
        refine wpAnyH_take (i := 6) (v := undef) (takeL rfl) (by kernel_rfl) (by kernel_rfl) (by kernel_rfl) (fun _ _ _ h => h) (Or.inr ⟨by rfl, rfl⟩) (by assumption) ?_
        try simp only [Act.put, List.setIfInBounds_toArray, List.set_cons_zero, List.set_cons_succ]
        refine wpAnyH_take (i := 7) (v := undef) (takeL rfl) (by kernel_rfl) (by kernel_rfl) (by kernel_rfl) (fun _ _ _ h => h) (Or.inr ⟨by rfl, rfl⟩) (by assumption) ?_
        try simp only [Act.put, List.setIfInBounds_toArray, List.set_cons_zero, List.set_cons_succ]
        refine wpAnyH_take (i := 8) (v := undef) (takeL rfl) (by kernel_rfl) (by kernel_rfl) (by kernel_rfl) (fun _ _ _ h => h) (Or.inr ⟨by rfl, rfl⟩) (by assumption) ?_
        try simp only [Act.put, List.setIfInBounds_toArray, List.set_cons_zero, List.set_cons_succ]
        refine wpAnyH_take (i := 9) (v := undef) (takeL rfl) (by kernel_rfl) (by kernel_rfl) (by kernel_rfl) (fun _ _ _ h => h) (Or.inr ⟨by rfl, rfl⟩) (by assumption) ?_
        try simp only [Act.put, List.setIfInBounds_toArray, List.set_cons_zero, List.set_cons_succ]
        refine wpAnyH_take (i := 10) (v := undef) (takeL rfl) (by kernel_rfl) (by kernel_rfl) (by kernel_rfl) (fun _ _ _ h => h) (Or.inr ⟨by rfl, rfl⟩) (by assumption) ?_
        try simp only [Act.put, List.setIfInBounds_toArray, List.set_cons_zero, List.set_cons_succ]
        refine wpAnyH_take (i := 11) (v := undef) (takeL rfl) (by kernel_rfl) (by kernel_rfl) (by kernel_rfl) (fun _ _ _ h => h) (Or.inr ⟨by rfl, rfl⟩) (by assumption) ?_
        try simp only [Act.put, List.setIfInBounds_toArray, List.set_cons_zero, List.set_cons_succ]
        refine wpAnyH_take (i := 12) (v := undef) (takeL rfl) (by kernel_rfl) (by kernel_rfl) (by kernel_rfl) (fun _ _ _ h => h) (Or.inr ⟨by rfl, rfl⟩) (by assumption) ?_
        try simp only [Act.put, List.setIfInBounds_toArray, List.set_cons_zero, List.set_cons_succ]
        refine wpAnyH_take (i := 13) (v := undef) (takeL rfl) (by kernel_rfl) (by kernel_rfl) (by kernel_rfl) (fun _ _ _ h => h) (Or.inr ⟨by rfl, rfl⟩) (by assumption) ?_
        try simp only [Act.put, List.setIfInBounds_toArray, List.set_cons_zero, List.set_cons_succ]
        refine wpAnyH_take (i := 14) (v := undef) (takeL rfl) (by kernel_rfl) (by kernel_rfl) (by kernel_rfl) (fun _ _ _ h => h) (Or.inr ⟨by rfl, rfl⟩) (by assumption) ?_
        try simp only [Act.put, List.setIfInBounds_toArray, List.set_cons_zero, List.set_cons_succ]
        refine wpAnyH_take (i := 15) (v := undef) (takeL rfl) (by kernel_rfl) (by kernel_rfl) (by kernel_rfl) (fun _ _ _ h => h) (Or.inr ⟨by rfl, rfl⟩) (by assumption) ?_
        try simp only [Act.put, List.setIfInBounds_toArray, List.set_cons_zero, List.set_cons_succ]
        refine wpAnyH_take (i := 16) (v := undef) (takeL rfl) (by kernel_rfl) (by kernel_rfl) (by kernel_rfl) (fun _ _ _ h => h) (Or.inr ⟨by rfl, rfl⟩) (by assumption) ?_
        try simp only [Act.put, List.setIfInBounds_toArray, List.set_cons_zero, List.set_cons_succ]
        refine wpAnyH_take (i := 17) (v := ?_) (takeL rfl) (by kernel_rfl) (by kernel_rfl) (by kernel_rfl) (fun _ _ _ h => h) (Or.inl ⟨by rfl, ?_⟩) (by assumption) ?_
        rotate_left
        · (intro w hSw; (try dsimp only at hSw); first | (go_simp; done) | (go_simp; with_reducible rfl))
        try simp only [Act.put, List.setIfInBounds_toArray, List.set_cons_zero, List.set_cons_succ]
        refine wpAnyH_done (by kernel_rfl) ?_ _
        refine NoPanic.normal ?_
        go_wp2_with fail
        go_ret
        exact ⟨rfl, bNext (bDrew HB3.out) hB4⟩
      have HCt := Lib.hid hC
      clear hC
      by_cases hk0 : k = 0
      · have hk2 : decide (0 < k) = false := decide_eq_false (by omega)
        have hk3 : decide ((0 : Int) < (k : Int)) = false := decide_eq_false (by omega)
        have HI : Hid (Chk mayV (fun y p => y.1 < p.1) xs (k + 1)) := by
          show Chk _ _ _ _
          subst hk0
          exact Chk.first hp.out HCt.out
        clear hk0
        go_wp2_with fail
        rw [← hw3.out, ← hy.out]
        refine wp_region_noPanic ?_
        refine wp_region_held_drew (S := fun w' => w'.cell? ⟨y, 0, none⟩ = some (.int .i64 p) ∧ w'.cell? ⟨y, 1, none⟩ = some (.int .i64 q) ∧ w'.cell? ⟨y, 2, none⟩ = some (.int .i64 t)) (by kernel_rfl) (⟨e0, e1, e2⟩) (fun hHeld => ?_)
        refine wpAnyH_take (i := 0) (v := ?_) (takeL rfl) (by kernel_rfl) (by kernel_rfl) (by kernel_rfl) (fun _ _ _ h => h) (Or.inl ⟨by rfl, ?_⟩) (by assumption) ?_
        rotate_left
        · (intro w hSw; (try dsimp only at hSw); first | (go_simp; done) | (go_simp; with_reducible rfl))
        try simp only [Act.put, List.setIfInBounds_toArray, List.set_cons_zero, List.set_cons_succ]
        refine wpAnyH_ready (rs := [1]) (by kernel_rfl) (by simp) ?_
        refine AllReadyH.cons (takeL rfl) (fun K hK => ?_) AllReadyH.nil
        go_simp
        refine (vmay_any p q t true (itT HCt) _).mono ?_; rintro e w4 ⟨rfl, hB4⟩
        go_wp2_with fail
        refine hK.out _ _ (KEEP.out _ hB4) (fun hHeld => ?_)
        clear hK K
        refine wpAnyH_take (i := 2) (v := ?_) (takeL rfl) (by kernel_rfl) (by kernel_rfl) (by kernel_rfl) (fun _ _ _ h => h) (Or.inl ⟨by rfl, ?_⟩) (by assumption) ?_
        rotate_left
        · (intro w hSw; (try dsimp only at hSw); first | (go_simp; done) | (go_simp; with_reducible rfl))
        try simp only [Act.put, List.setIfInBounds_toArray, List.set_cons_zero, List.set_cons_succ]
        refine wpAnyH_take (i := 3) (v := ?_) (takeL rfl) (by kernel_rfl) (by kernel_rfl) (by kernel_rfl) (fun _ _ _ h => h) (Or.inl ⟨by rfl, ?_⟩) (by assumption) ?_
        rotate_left
        · (intro w hSw; (try dsimp only at hSw); first | (go_simp; done) | (go_simp; with_reducible rfl))
        try simp only [Act.put, List.setIfInBounds_toArray, List.set_cons_zero, List.set_cons_succ]
        refine wpAnyH_take (i := 4) (v := ?_) (takeL rfl) (by kernel_rfl) (by kernel_rfl) (by kernel_rfl) (fun _ _ _ h => h) (Or.inl ⟨by rfl, ?_⟩) (by assumption) ?_
        rotate_left
        · (intro w hSw; (try dsimp only at hSw); first | (go_simp; done) | (go_simp; with_reducible rfl))
        try simp only [Act.put, List.setIfInBounds_toArray, List.set_cons_zero, List.set_cons_succ]
        refine wpAnyH_take (i := 5) (v := ?_) (takeL rfl) (by kernel_rfl) (by kernel_rfl) (by kernel_rfl) (fun _ _ _ h => h) (Or.inl ⟨by rfl, ?_⟩) (by assumption) ?_
        rotate_left
        · (intro w hSw; (try dsimp only at hSw); first | (go_simp; done) | (go_simp; with_reducible rfl))
        try simp only [Act.put, List.setIfInBounds_toArray, List.set_cons_zero, List.set_cons_succ]
        refine wpAnyH_take (i := 6) (v := ?_) (takeL rfl) (by kernel_rfl) (by kernel_rfl) (by kernel_rfl) (fun _ _ _ h => h) (Or.inl ⟨by rfl, ?_⟩) (by assumption) ?_
        rotate_left
        · (intro w hSw; (try dsimp only at hSw); first | (go_simp; done) | (go_simp; with_reducible rfl))
        try simp only [Act.put, List.setIfInBounds_toArray, List.set_cons_zero, List.set_cons_succ]
        refine wpAnyH_take (i := 7) (v := undef) (takeL rfl) (by kernel_rfl) (by kernel_rfl) (by kernel_rfl) (fun _ _ _ h => h) (Or.inr ⟨by rfl, rfl⟩) (by assumption) ?_
        try simp only [Act.put, List.setIfInBounds_toArray, List.set_cons_zero, List.set_cons_succ]
        refine wpAnyH_take (i := 8) (v := undef) (takeL rfl) (by kernel_rfl) (by kernel_rfl) (by kernel_rfl) (fun _ _ _ h => h) (Or.inr ⟨by rfl, rfl⟩) (by assumption) ?_
        try simp only [Act.put, List.setIfInBounds_toArray, List.set_cons_zero, List.set_cons_succ]
        refine wpAnyH_take (i := 9) (v := undef) (takeL rfl) (by kernel_rfl) (by kernel_rfl) (by kernel_rfl) (fun _ _ _ h => h) (Or.inr ⟨by rfl, rfl⟩) (by assumption) ?_
        try simp only [Act.put, List.setIfInBounds_toArray, List.set_cons_zero, List.set_cons_succ]
        refine wpAnyH_take (i := 10) (v := undef) (takeL rfl) (by kernel_rfl) (by kernel_rfl) (by kernel_rfl) (fun _ _ _ h => h) (Or.inr ⟨by rfl, rfl⟩) (by assumption) ?_
        try simp only [Act.put, List.setIfInBounds_toArray, List.set_cons_zero, List.set_cons_succ]
        refine wpAnyH_take (i := 11) (v := undef) (takeL rfl) (by kernel_rfl) (by kernel_rfl) (by kernel_rfl) (fun _ _ _ h => h) (Or.inr ⟨by rfl, rfl⟩) (by assumption) ?_
        try simp only [Act.put, List.setIfInBounds_toArray, List.set_cons_zero, List.set_cons_succ]
        refine wpAnyH_take (i := 12) (v := undef) (takeL rfl) (by kernel_rfl) (by kernel_rfl) (by kernel_rfl) (fun _ _ _ h => h) (Or.inr ⟨by rfl, rfl⟩) (by assumption) ?_
        try simp only [Act.put, List.setIfInBounds_toArray, List.set_cons_zero, List.set_cons_succ]
        refine wpAnyH_take (i := 13) (v := undef) (takeL rfl) (by kernel_rfl) (by kernel_rfl) (by kernel_rfl) (fun _ _ _ h => h) (Or.inr ⟨by rfl, rfl⟩) (by assumption) ?_
        try simp only [Act.put, List.setIfInBounds_toArray, List.set_cons_zero, List.set_cons_succ]
        refine wpAnyH_take (i := 14) (v := undef) (takeL rfl) (by kernel_rfl) (by kernel_rfl) (by kernel_rfl) (fun _ _ _ h => h) (Or.inr ⟨by rfl, rfl⟩) (by assumption) ?_
        try simp only [Act.put, List.setIfInBounds_toArray, List.set_cons_zero, List.set_cons_succ]
        refine wpAnyH_take (i := 15) (v := undef) (takeL rfl) (by kernel_rfl) (by kernel_rfl) (by kernel_rfl) (fun _ _ _ h => h) (Or.inr ⟨by rfl, rfl⟩) (by assumption) ?_
        try simp only [Act.put, List.setIfInBounds_toArray, List.set_cons_zero, List.set_cons_succ]
        refine wpAnyH_take (i := 16) (v := ?_) (takeL rfl) (by kernel_rfl) (by kernel_rfl) (by kernel_rfl) (fun _ _ _ h => h) (Or.inl ⟨by rfl, ?_⟩) (by assumption) ?_
        rotate_left
        · (intro w hSw; (try dsimp only at hSw); first | (go_simp; done) | (go_simp; with_reducible rfl))
        try simp only [Act.put, List.setIfInBounds_toArray, List.set_cons_zero, List.set_cons_succ]
        refine wpAnyH_take (i := 17) (v := ?_) (takeL rfl) (by kernel_rfl) (by kernel_rfl) (by kernel_rfl) (fun _ _ _ h => h) (Or.inl ⟨by rfl, ?_⟩) (by assumption) ?_
        rotate_left
        · (intro w hSw; (try dsimp only at hSw); first | (go_simp; done) | (go_simp; with_reducible rfl))
        try simp only [Act.put, List.setIfInBounds_toArray, List.set_cons_zero, List.set_cons_succ]
        refine wpAnyH_done (by kernel_rfl) ?_ _
        refine NoPanic.normal ?_
        go_wp2_with fail
        go_roundw
        case rel => exact ⟨k + 1, by omega, by go_num, bNext (bDrew HB3.out) hB4, HI⟩
        case measure => simp [intOf]; omega
      · obtain ⟨m, hkm⟩ : ∃ m, k = m + 1 := ⟨k - 1, by omega⟩
        have hmk : m < k := by omega
        have hmn : m < n := by omega
        have hwm : IntKind.i64.wrap ((k : Int) - 1) = (m : Int) := by rw [IntKind.wrap_i64]; omega
        have hk1 : 0 < k := by omega
        have hk2 : decide (0 < k) = true := decide_eq_true hk1
        have hk3 : decide ((0 : Int) < (k : Int)) = true := decide_eq_true (by omega)
        obtain ⟨b', off', ⟨p', q', t'⟩, hb', hbl', hp', hcells'⟩ := (HS0.out.below HB3.out).get m (by rw [hn.out]; exact hmn)
        cases hb'
        have f0 : w3.cell? ⟨b, off + m * 3, none⟩ = some (.int .i64 p') := hcells' 0 _ rfl
        have HKM : Hid (k = m + 1) := hkm
        have hbl3 : Hid (b < w3.heap.size) := hbl'
        obtain ⟨L, hL⟩ := nm (decide (p' < p))
        have hL2 : decide (p ≤ p') = !L := by rw [hL.out]; by_cases h : p' < p <;> simp [h] <;> omega
        clear hkm hk0 KEEP hcells'
        have KEEP : Hid (∀ wb : World, Below w3.drew.heap.size w3.drew wb → wb.cell? ⟨y, 0, none⟩ = some (.int .i64 p) ∧ wb.cell? ⟨y, 1, none⟩ = some (.int .i64 q) ∧ wb.cell? ⟨y, 2, none⟩ = some (.int .i64 t) ∧ wb.cell? ⟨b, off + m * 3, none⟩ = some (.int .i64 p')) := by
          show ∀ wb : World, _
          intro wb h
          have h2 := Blk.below (w := w3.drew) Ky.out h Ky.out.lt
          exact ⟨h2.cell 0, h2.cell 1, h2.cell 2, (h.cell (p := ⟨b, off + m * 3, none⟩) hbl3.out).trans f0⟩
        go_wp2_with fail
        rw [← hw3.out, ← hy.out]
        cases L
        · obtain rfl : r = false := notB hr.out fun h => by
            have h2 := hp.out
            have h3 := hlt
            rw [HKM.out] at h2 h3
            exact Chk.not_r (r := (fun y p => y.1 < p.1)) (by rw [hn.out]; exact h3) h2 hp'.out (by simpa using hL.out) h.each
          obtain rfl := hE.out
          refine wp_region_noPanic ?_
          refine wp_region_held_drew (S := fun w' => w'.cell? ⟨y, 0, none⟩ = some (.int .i64 p) ∧ w'.cell? ⟨y, 1, none⟩ = some (.int .i64 q) ∧ w'.cell? ⟨y, 2, none⟩ = some (.int .i64 t) ∧ w'.cell? ⟨b, off + m * 3, none⟩ = some (.int .i64 p')) (by kernel_rfl) (⟨e0, e1, e2, f0⟩) (fun hHeld => ?_)
          refine wpAnyH_take (i := 0) (v := ?_) (takeL rfl) (by kernel_rfl) (by kernel_rfl) (by kernel_rfl) (fun _ _ _ h => h) (Or.inl ⟨by rfl, ?_⟩) (by assumption) ?_
          rotate_left
          · (intro w hSw; (try dsimp only at hSw); first | (go_simp; done) | (go_simp; with_reducible rfl))
          try simp only [Act.put, List.setIfInBounds_toArray, List.set_cons_zero, List.set_cons_succ]
          refine wpAnyH_ready (rs := [1]) (by kernel_rfl) (by simp) ?_
          refine AllReadyH.cons (takeL rfl) (fun K hK => ?_) AllReadyH.nil
          go_simp
          refine (vmay_any p q t true (itT HCt) _).mono ?_; rintro e w4 ⟨rfl, hB4⟩
          go_wp2_with fail
          refine hK.out _ _ (KEEP.out _ hB4) (fun hHeld => ?_)
          clear hK K
          refine wpAnyH_take (i := 2) (v := ?_) (takeL rfl) (by kernel_rfl) (by kernel_rfl) (by kernel_rfl) (fun _ _ _ h => h) (Or.inl ⟨by rfl, ?_⟩) (by assumption) ?_
          rotate_left
          · (intro w hSw; (try dsimp only at hSw); first | (go_simp; done) | (go_simp; with_reducible rfl))
          try simp only [Act.put, List.setIfInBounds_toArray, List.set_cons_zero, List.set_cons_succ]
          refine wpAnyH_take (i := 3) (v := ?_) (takeL rfl) (by kernel_rfl) (by kernel_rfl) (by kernel_rfl) (fun _ _ _ h => h) (Or.inl ⟨by rfl, ?_⟩) (by assumption) ?_
          rotate_left
          · (intro w hSw; (try dsimp only at hSw); first | (go_simp; done) | (go_simp; with_reducible rfl))
          try simp only [Act.put, List.setIfInBounds_toArray, List.set_cons_zero, List.set_cons_succ]
          refine wpAnyH_take (i := 4) (v := ?_) (takeL rfl) (by kernel_rfl) (by kernel_rfl) (by kernel_rfl) (fun _ _ _ h => h) (Or.inl ⟨by rfl, ?_⟩) (by assumption) ?_
          rotate_left
          · (intro w hSw; (try dsimp only at hSw); first | (go_simp; done) | (go_simp; with_reducible rfl))
          try simp only [Act.put, List.setIfInBounds_toArray, List.set_cons_zero, List.set_cons_succ]
          refine wpAnyH_take (i := 5) (v := ?_) (takeL rfl) (by kernel_rfl) (by kernel_rfl) (by kernel_rfl) (fun _ _ _ h => h) (Or.inl ⟨by rfl, ?_⟩) (by assumption) ?_
          rotate_left
          · (intro w hSw; (try dsimp only at hSw); first | (go_simp; done) | (go_simp; with_reducible rfl))
          try simp only [Act.put, List.setIfInBounds_toArray, List.set_cons_zero, List.set_cons_succ]
          refine wpAnyH_take (i := 6) (v := ?_) (takeL rfl) (by kernel_rfl) (by kernel_rfl) (by kernel_rfl) (fun _ _ _ h => h) (Or.inl ⟨by rfl, ?_⟩) (by assumption) ?_
          rotate_left
          · (intro w hSw; (try dsimp only at hSw); first | (go_simp; done) | (go_simp; with_reducible rfl))
          try simp only [Act.put, List.setIfInBounds_toArray, List.set_cons_zero, List.set_cons_succ]
          refine wpAnyH_take (i := 7) (v := ?_) (takeL rfl) (by kernel_rfl) (by kernel_rfl) (by kernel_rfl) (fun _ _ _ h => h) (Or.inl ⟨by rfl, ?_⟩) (by assumption) ?_
          rotate_left
          · (intro w hSw; (try dsimp only at hSw); first | (go_simp; done) | (go_simp; with_reducible rfl))
          try simp only [Act.put, List.setIfInBounds_toArray, List.set_cons_zero, List.set_cons_succ]
          refine wpAnyH_take (i := 8) (v := ?_) (takeL rfl) (by kernel_rfl) (by kernel_rfl) (by kernel_rfl) (fun _ _ _ h => h) (Or.inl ⟨by rfl, ?_⟩) (by assumption) ?_
          rotate_left
          · (intro w hSw; (try dsimp only at hSw); first | (go_simp; done) | (go_simp; with_reducible rfl))
          try simp only [Act.put, List.setIfInBounds_toArray, List.set_cons_zero, List.set_cons_succ]
          refine wpAnyH_take (i := 9) (v := ?_) (takeL rfl) (by kernel_rfl) (by kernel_rfl) (by kernel_rfl) (fun _ _ _ h => h) (Or.inl ⟨by rfl, ?_⟩) (by assumption) ?_
          rotate_left
          · (intro w hSw; (try dsimp only at hSw); first | (go_simp; done) | (go_simp; with_reducible rfl))
          try simp only [Act.put, List.setIfInBounds_toArray, List.set_cons_zero, List.set_cons_succ]
          refine wpAnyH_take (i := 10) (v := ?_) (takeL rfl) (by kernel_rfl) (by kernel_rfl) (by kernel_rfl) (fun _ _ _ h => h) (Or.inl ⟨by rfl, ?_⟩) (by assumption) ?_
          rotate_left
          · (intro w hSw; (try dsimp only at hSw); first | (go_simp; done) | (go_simp; with_reducible rfl))
          try simp only [Act.put, List.setIfInBounds_toArray, List.set_cons_zero, List.set_cons_succ]
          refine wpAnyH_take (i := 11) (v := ?_) (takeL rfl) (by kernel_rfl) (by kernel_rfl) (by kernel_rfl) (fun _ _ _ h => h) (Or.inl ⟨by rfl, ?_⟩) (by assumption) ?_
          rotate_left
          · (intro w hSw; (try dsimp only at hSw); first | (go_simp; done) | (go_simp; with_reducible rfl))
          try simp only [Act.put, List.setIfInBounds_toArray, List.set_cons_zero, List.set_cons_succ]
          refine wpAnyH_take (i := 12) (v := ?_) (takeL rfl) (by kernel_rfl) (by kernel_rfl) (by kernel_rfl) (fun _ _ _ h => h) (Or.inl ⟨by rfl, ?_⟩) (by assumption) ?_
          rotate_left
          · (intro w hSw; (try dsimp only at hSw); first | (go_simp; done) | (go_simp; with_reducible rfl))
          try simp only [Act.put, List.setIfInBounds_toArray, List.set_cons_zero, List.set_cons_succ]
          refine wpAnyH_take (i := 13) (v := ?_) (takeL rfl) (by kernel_rfl) (by kernel_rfl) (by kernel_rfl) (fun _ _ _ h => h) (Or.inl ⟨by rfl, ?_⟩) (by assumption) ?_
          rotate_left
          · (intro w hSw; (try dsimp only at hSw); first | (go_simp; done) | (go_simp; with_reducible rfl))
          try simp only [Act.put, List.setIfInBounds_toArray, List.set_cons_zero, List.set_cons_succ]
          refine wpAnyH_take (i := 14) (v := ?_) (takeL rfl) (by kernel_rfl) (by kernel_rfl) (by kernel_rfl) (fun _ _ _ h => h) (Or.inl ⟨by rfl, ?_⟩) (by assumption) ?_
          rotate_left
          · (intro w hSw; (try dsimp only at hSw); first | (go_simp; done) | (go_simp; with_reducible rfl))
          try simp only [Act.put, List.setIfInBounds_toArray, List.set_cons_zero, List.set_cons_succ]
          refine wpAnyH_take (i := 15) (v := ?_) (takeL rfl) (by kernel_rfl) (by kernel_rfl) (by kernel_rfl) (fun _ _ _ h => h) (Or.inl ⟨by rfl, ?_⟩) (by assumption) ?_
          rotate_left
          · (intro w hSw; (try dsimp only at hSw); first | (go_simp; done) | (go_simp; with_reducible rfl))
          try simp only [Act.put, List.setIfInBounds_toArray, List.set_cons_zero, List.set_cons_succ]
          refine wpAnyH_take (i := 16) (v := ?_) (takeL rfl) (by kernel_rfl) (by kernel_rfl) (by kernel_rfl) (fun _ _ _ h => h) (Or.inl ⟨by rfl, ?_⟩) (by assumption) ?_
          rotate_left
          · (intro w hSw; (try dsimp only at hSw); first | (go_simp; done) | (go_simp; with_reducible rfl))
          try simp only [Act.put, List.setIfInBounds_toArray, List.set_cons_zero, List.set_cons_succ]
          refine wpAnyH_take (i := 17) (v := ?_) (takeL rfl) (by kernel_rfl) (by kernel_rfl) (by kernel_rfl) (fun _ _ _ h => h) (Or.inl ⟨by rfl, ?_⟩) (by assumption) ?_
          rotate_left
          · (intro w hSw; (try dsimp only at hSw); first | (go_simp; done) | (go_simp; with_reducible rfl))
          try simp only [Act.put, List.setIfInBounds_toArray, List.set_cons_zero, List.set_cons_succ]
          refine wpAnyH_done (by kernel_rfl) ?_ _
          refine NoPanic.normal ?_
          go_wp2_with fail
          go_ret
          exact ⟨rfl, bNext (bDrew HB3.out) hB4⟩
        · have HI : Hid (Chk mayV (fun y p => y.1 < p.1) xs (k + 1)) := by
            show Chk _ _ _ _
            have h1 := hI.out
            have h2 := hp.out
            rw [HKM.out] at h1 h2 ⊢
            exact Chk.next h1 h2 HCt.out hp'.out (by simpa using hL.out)
          refine wp_region_noPanic ?_
          refine wp_region_held_drew (S := fun w' => w'.cell? ⟨y, 0, none⟩ = some (.int .i64 p) ∧ w'.cell? ⟨y, 1, none⟩ = some (.int .i64 q) ∧ w'.cell? ⟨y, 2, none⟩ = some (.int .i64 t) ∧ w'.cell? ⟨b, off + m * 3, none⟩ = some (.int .i64 p')) (by kernel_rfl) (⟨e0, e1, e2, f0⟩) (fun hHeld => ?_)
          refine wpAnyH_take (i := 0) (v := ?_) (takeL rfl) (by kernel_rfl) (by kernel_rfl) (by kernel_rfl) (fun _ _ _ h => h) (Or.inl ⟨by rfl, ?_⟩) (by assumption) ?_
          rotate_left
          · (intro w hSw; (try dsimp only at hSw); first | (go_simp; done) | (go_simp; with_reducible rfl))
          try simp only [Act.put, List.setIfInBounds_toArray, List.set_cons_zero, List.set_cons_succ]
          refine wpAnyH_ready (rs := [1]) (by kernel_rfl) (by simp) ?_
          refine AllReadyH.cons (takeL rfl) (fun K hK => ?_) AllReadyH.nil
          go_simp
          refine (vmay_any p q t true (itT HCt) _).mono ?_; rintro e w4 ⟨rfl, hB4⟩
          go_wp2_with fail
          refine hK.out _ _ (KEEP.out _ hB4) (fun hHeld => ?_)
          clear hK K
          refine wpAnyH_take (i := 2) (v := ?_) (takeL rfl) (by kernel_rfl) (by kernel_rfl) (by kernel_rfl) (fun _ _ _ h => h) (Or.inl ⟨by rfl, ?_⟩) (by assumption) ?_
          rotate_left
          · (intro w hSw; (try dsimp only at hSw); first | (go_simp; done) | (go_simp; with_reducible rfl))
          try simp only [Act.put, List.setIfInBounds_toArray, List.set_cons_zero, List.set_cons_succ]
          refine wpAnyH_take (i := 3) (v := ?_) (takeL rfl) (by kernel_rfl) (by kernel_rfl) (by kernel_rfl) (fun _ _ _ h => h) (Or.inl ⟨by rfl, ?_⟩) (by assumption) ?_
          rotate_left
          · (intro w hSw; (try dsimp only at hSw); first | (go_simp; done) | (go_simp; with_reducible rfl))
          try simp only [Act.put, List.setIfInBounds_toArray, List.set_cons_zero, List.set_cons_succ]
          refine wpAnyH_take (i := 4) (v := ?_) (takeL rfl) (by kernel_rfl) (by kernel_rfl) (by kernel_rfl) (fun _ _ _ h => h) (Or.inl ⟨by rfl, ?_⟩) (by assumption) ?_
          rotate_left
          · (intro w hSw; (try dsimp only at hSw); first | (go_simp; done) | (go_simp; with_reducible rfl))
          try simp only [Act.put, List.setIfInBounds_toArray, List.set_cons_zero, List.set_cons_succ]
          refine wpAnyH_take (i := 5) (v := ?_) (takeL rfl) (by kernel_rfl) (by kernel_rfl) (by kernel_rfl) (fun _ _ _ h => h) (Or.inl ⟨by rfl, ?_⟩) (by assumption) ?_
          rotate_left
          · (intro w hSw; (try dsimp only at hSw); first | (go_simp; done) | (go_simp; with_reducible rfl))
          try simp only [Act.put, List.setIfInBounds_toArray, List.set_cons_zero, List.set_cons_succ]
          refine wpAnyH_take (i := 6) (v := ?_) (takeL rfl) (by kernel_rfl) (by kernel_rfl) (by kernel_rfl) (fun _ _ _ h => h) (Or.inl ⟨by rfl, ?_⟩) (by assumption) ?_
          rotate_left
          · (intro w hSw; (try dsimp only at hSw); first | (go_simp; done) | (go_simp; with_reducible rfl))
          try simp only [Act.put, List.setIfInBounds_toArray, List.set_cons_zero, List.set_cons_succ]
          refine wpAnyH_take (i := 7) (v := ?_) (takeL rfl) (by kernel_rfl) (by kernel_rfl) (by kernel_rfl) (fun _ _ _ h => h) (Or.inl ⟨by rfl, ?_⟩) (by assumption) ?_
          rotate_left
          · (intro w hSw; (try dsimp only at hSw); first | (go_simp; done) | (go_simp; with_reducible rfl))
          try simp only [Act.put, List.setIfInBounds_toArray, List.set_cons_zero, List.set_cons_succ]
          refine wpAnyH_take (i := 8) (v := ?_) (takeL rfl) (by kernel_rfl) (by kernel_rfl) (by kernel_rfl) (fun _ _ _ h => h) (Or.inl ⟨by rfl, ?_⟩) (by assumption) ?_
          rotate_left
          · (intro w hSw; (try dsimp only at hSw); first | (go_simp; done) | (go_simp; with_reducible rfl))
          try simp only [Act.put, List.setIfInBounds_toArray, List.set_cons_zero, List.set_cons_succ]
          refine wpAnyH_take (i := 9) (v := ?_) (takeL rfl) (by kernel_rfl) (by kernel_rfl) (by kernel_rfl) (fun _ _ _ h => h) (Or.inl ⟨by rfl, ?_⟩) (by assumption) ?_
          rotate_left
          · (intro w hSw; (try dsimp only at hSw); first | (go_simp; done) | (go_simp; with_reducible rfl))
          try simp only [Act.put, List.setIfInBounds_toArray, List.set_cons_zero, List.set_cons_succ]
          refine wpAnyH_take (i := 10) (v := ?_) (takeL rfl) (by kernel_rfl) (by kernel_rfl) (by kernel_rfl) (fun _ _ _ h => h) (Or.inl ⟨by rfl, ?_⟩) (by assumption) ?_
          rotate_left
          · (intro w hSw; (try dsimp only at hSw); first | (go_simp; done) | (go_simp; with_reducible rfl))
          try simp only [Act.put, List.setIfInBounds_toArray, List.set_cons_zero, List.set_cons_succ]
          refine wpAnyH_take (i := 11) (v := ?_) (takeL rfl) (by kernel_rfl) (by kernel_rfl) (by kernel_rfl) (fun _ _ _ h => h) (Or.inl ⟨by rfl, ?_⟩) (by assumption) ?_
          rotate_left
          · (intro w hSw; (try dsimp only at hSw); first | (go_simp; done) | (go_simp; with_reducible rfl))
          try simp only [Act.put, List.setIfInBounds_toArray, List.set_cons_zero, List.set_cons_succ]
          refine wpAnyH_take (i := 12) (v := ?_) (takeL rfl) (by kernel_rfl) (by kernel_rfl) (by kernel_rfl) (fun _ _ _ h => h) (Or.inl ⟨by rfl, ?_⟩) (by assumption) ?_
          rotate_left
          · (intro w hSw; (try dsimp only at hSw); first | (go_simp; done) | (go_simp; with_reducible rfl))
          try simp only [Act.put, List.setIfInBounds_toArray, List.set_cons_zero, List.set_cons_succ]
          refine wpAnyH_take (i := 13) (v := ?_) (takeL rfl) (by kernel_rfl) (by kernel_rfl) (by kernel_rfl) (fun _ _ _ h => h) (Or.inl ⟨by rfl, ?_⟩) (by assumption) ?_
          rotate_left
          · (intro w hSw; (try dsimp only at hSw); first | (go_simp; done) | (go_simp; with_reducible rfl))
          try simp only [Act.put, List.setIfInBounds_toArray, List.set_cons_zero, List.set_cons_succ]
          refine wpAnyH_take (i := 14) (v := ?_) (takeL rfl) (by kernel_rfl) (by kernel_rfl) (by kernel_rfl) (fun _ _ _ h => h) (Or.inl ⟨by rfl, ?_⟩) (by assumption) ?_
          rotate_left
          · (intro w hSw; (try dsimp only at hSw); first | (go_simp; done) | (go_simp; with_reducible rfl))
          try simp only [Act.put, List.setIfInBounds_toArray, List.set_cons_zero, List.set_cons_succ]
          refine wpAnyH_take (i := 15) (v := ?_) (takeL rfl) (by kernel_rfl) (by kernel_rfl) (by kernel_rfl) (fun _ _ _ h => h) (Or.inl ⟨by rfl, ?_⟩) (by assumption) ?_
          rotate_left
          · (intro w hSw; (try dsimp only at hSw); first | (go_simp; done) | (go_simp; with_reducible rfl))
          try simp only [Act.put, List.setIfInBounds_toArray, List.set_cons_zero, List.set_cons_succ]
          refine wpAnyH_take (i := 16) (v := ?_) (takeL rfl) (by kernel_rfl) (by kernel_rfl) (by kernel_rfl) (fun _ _ _ h => h) (Or.inl ⟨by rfl, ?_⟩) (by assumption) ?_
          rotate_left
          · (intro w hSw; (try dsimp only at hSw); first | (go_simp; done) | (go_simp; with_reducible rfl))
          try simp only [Act.put, List.setIfInBounds_toArray, List.set_cons_zero, List.set_cons_succ]
          refine wpAnyH_take (i := 17) (v := ?_) (takeL rfl) (by kernel_rfl) (by kernel_rfl) (by kernel_rfl) (fun _ _ _ h => h) (Or.inl ⟨by rfl, ?_⟩) (by assumption) ?_
          rotate_left
          · (intro w hSw; (try dsimp only at hSw); first | (go_simp; done) | (go_simp; with_reducible rfl))
          try simp only [Act.put, List.setIfInBounds_toArray, List.set_cons_zero, List.set_cons_succ]
          refine wpAnyH_done (by kernel_rfl) ?_ _
          refine NoPanic.normal ?_
          go_wp2_with fail
          go_roundw
          case rel => exact ⟨k + 1, by omega, by go_num, bNext (bDrew HB3.out) hB4, HI⟩
          case measure => simp [intOf]; omega
    · obtain rfl : k = n := by omega
      obtain rfl : r = true := hr.out.2 ⟨by rw [hn.out]; exact HM.out, by rw [hn.out]; exact hI.out⟩
      obtain rfl := hE.out
      go_wp2_with fail
      go_ret
      exact ⟨rfl, hB⟩
end Go.Proofs.YtfpjdmplepepjaaGreat

/-! WCheck: Wire: may it be said. -/
namespace Go.Proofs.YtfpjdmplepepjaaGreat
open Go.RowKit

/-- The five rows of what is said, as they lie. -/
structure Lies (w : World) (am ab ac ag av : Option Addr) (nl nb nc ng nv : Nat) (live : List Msg5) (bs cl : List Dot2) (tags : List Tag2) (view : List Peer3) : Prop where
  l0 : Hid (live.length = nl)
  l1 : Hid (bs.length = nb)
  l2 : Hid (cl.length = nc)
  l3 : Hid (tags.length = ng)
  l4 : Hid (view.length = nv)
  m0 : nl ≤ 1000000
  m1 : nb ≤ 1000000
  m2 : nc ≤ 1000000
  m3 : ng ≤ 1000000
  m4 : nv ≤ 1000000
  s0 : SlE eMsg 5 w am live
  s1 : SlP w ab bs
  s2 : SlP w ac cl
  s3 : SlE eTag 2 w ag tags
  s4 : SlE ePeer 3 w av view
theorem Lies.below {w w' : World} {am ab ac ag av : Option Addr} {nl nb nc ng nv : Nat} {live : List Msg5} {bs cl : List Dot2} {tags : List Tag2} {view : List Peer3} (h : Lies w am ab ac ag av nl nb nc ng nv live bs cl tags view) (hb : Below w.heap.size w w') : Lies w' am ab ac ag av nl nb nc ng nv live bs cl tags view :=
  ⟨h.l0, h.l1, h.l2, h.l3, h.l4, h.m0, h.m1, h.m2, h.m3, h.m4, h.s0.below hb, h.s1.below hb, h.s2.below hb, h.s3.below hb, h.s4.below hb⟩
theorem boolOf (p : Prop) : ∃ b : Bool, Hid (b = true ↔ p) ∧ Hid (b = false → ¬ p) ∧ Hid (b = true → p) := by
  by_cases h : p
  · exact ⟨true, itT h, (fun e => by cases e), fun _ => h⟩
  · exact ⟨false, itF h, fun _ => h, fun e => by cases e⟩

set_option maxRecDepth 100000 in
set_option maxHeartbeats 400000 in
theorem wwithin_any (n l m : Int) (w : World) :
    Calls Tryz.prog 35 #[.int .i64 n, .int .i64 l, .int .i64 m] w fun e w' => e = .returned (.bool (decide (l ≤ n ∧ n ≤ m))) ∧ w' = w := by
  by_cases h1 : l ≤ n
  · have g1 : n ≥ l := h1
    obtain ⟨B, hB⟩ := nm (decide (n ≤ m))
    have hE : Hid (decide (l ≤ n ∧ n ≤ m) = B) := by show _ = _; rw [hB.out]; exact decide_eq_decide.2 ⟨fun h => h.2, fun h => ⟨h1, h⟩⟩
    rw [hE.out]
    have hb := hB.out.symm
    go_enter Tryz.func35, Tryz.ntmps35
    go_wp2_with fail
    go_ret
    exact ⟨rfl, rfl⟩
  · have hE : decide (l ≤ n ∧ n ≤ m) = false := decide_eq_false fun h => h1 h.1
    rw [hE]
    go_enter Tryz.func35, Tryz.ntmps35
    go_wp2_with fail
    go_ret
    exact ⟨rfl, rfl⟩

set_option maxRecDepth 100000 in
set_option maxHeartbeats 4000000 in
theorem wcheck_any (k f s p fl d0 d1 rc lg : Int) (mark : ByteArray) (am ab ac ag av : Option Addr) (nl kl nb kb nc kc ng kg nv kv : Nat) (live : List Msg5) (bs cl : List Dot2) (tags : List Tag2) (view : List Peer3) (r : Bool) (hr : Hid (r = true ↔ (WL.mk k f s p fl d0 d1 rc lg mark live bs cl tags view).May)) (E : Int) (hE : Hid (E = errno r)) (w : World) (hL : Lies w am ab ac ag av nl nb nc ng nv live bs cl tags view) :
    Calls Tryz.prog 10 #[.agg #[.int .i64 k, .int .i64 f, .int .i64 s, .int .i64 p, .int .i64 fl, .string mark, .slice am nl kl, .slice ab nb kb, .slice ac nc kc, .slice ag ng kg, .slice av nv kv, .int .i64 d0, .int .i64 d1, .int .i64 rc, .int .i64 lg]] w fun e w' => e = .returned (.int .i64 E) ∧ Below w.heap.size w w' := by
  obtain ⟨w0, hw0⟩ := nm (w.alloc (.cells #[.int .i64 k, .int .i64 f, .int .i64 s, .int .i64 p, .int .i64 fl, .string mark, .slice am nl kl, .slice ab nb kb, .slice ac nc kc, .slice ag ng kg, .slice av nv kv, .int .i64 d0, .int .i64 d1, .int .i64 rc, .int .i64 lg] 35))
  obtain ⟨x, hx⟩ := nm w.heap.size
  have Kx : Hid (Blk w0 x #[.int .i64 k, .int .i64 f, .int .i64 s, .int .i64 p, .int .i64 fl, .string mark, .slice am nl kl, .slice ab nb kb, .slice ac nc kc, .slice ag ng kg, .slice av nv kv, .int .i64 d0, .int .i64 d1, .int .i64 rc, .int .i64 lg] 35) := blkN hw0.out hx.out
  have HB0 : Hid (Below w.heap.size w w0) := by rw [hw0.out]; exact bOld _
  have HL : Hid (Lies w0 am ab ac ag av nl nb nc ng nv live bs cl tags view) := hL.below HB0.out
  clear hL
  obtain ⟨bK, hbK⟩ := nm (decide (1 ≤ k ∧ k ≤ 8))
  have HK : Hid (∀ w, Calls Tryz.prog 35 #[.int .i64 k, .int .i64 1, .int .i64 8] w fun e w' => e = .returned (.bool bK) ∧ w' = w) := by intro w; rw [hbK.out]; exact wwithin_any _ _ _ w
  obtain ⟨bF, hbF⟩ := nm (decide (1 ≤ f ∧ f ≤ 1099511627776))
  have HF : Hid (∀ w, Calls Tryz.prog 35 #[.int .i64 f, .int .i64 1, .int .i64 1099511627776] w fun e w' => e = .returned (.bool bF) ∧ w' = w) := by intro w; rw [hbF.out]; exact wwithin_any _ _ _ w
  obtain ⟨bS, hbS⟩ := nm (decide (0 ≤ s ∧ s ≤ 1099511627776))
  have HS : Hid (∀ w, Calls Tryz.prog 35 #[.int .i64 s, .int .i64 0, .int .i64 1099511627776] w fun e w' => e = .returned (.bool bS) ∧ w' = w) := by intro w; rw [hbS.out]; exact wwithin_any _ _ _ w
  obtain ⟨bP, hbP⟩ := nm (decide (0 ≤ p ∧ p ≤ 15))
  have HP : Hid (∀ w, Calls Tryz.prog 35 #[.int .i64 p, .int .i64 0, .int .i64 15] w fun e w' => e = .returned (.bool bP) ∧ w' = w) := by intro w; rw [hbP.out]; exact wwithin_any _ _ _ w
  obtain ⟨bQ, hbQ⟩ := nm (decide (0 ≤ fl ∧ fl ≤ 1))
  have HQ : Hid (∀ w, Calls Tryz.prog 35 #[.int .i64 fl, .int .i64 0, .int .i64 1] w fun e w' => e = .returned (.bool bQ) ∧ w' = w) := by intro w; rw [hbQ.out]; exact wwithin_any _ _ _ w
  obtain ⟨bR, hbR⟩ := nm (decide (0 ≤ rc ∧ rc ≤ 1099511627776))
  have HR : Hid (∀ w, Calls Tryz.prog 35 #[.int .i64 rc, .int .i64 0, .int .i64 1099511627776] w fun e w' => e = .returned (.bool bR) ∧ w' = w) := by intro w; rw [hbR.out]; exact wwithin_any _ _ _ w
  obtain ⟨bG, hbG⟩ := nm (decide (0 ≤ lg ∧ lg ≤ 1073741824))
  have HG : Hid (∀ w, Calls Tryz.prog 35 #[.int .i64 lg, .int .i64 0, .int .i64 1073741824] w fun e w' => e = .returned (.bool bG) ∧ w' = w) := by intro w; rw [hbG.out]; exact wwithin_any _ _ _ w
  obtain ⟨D, hD, hDf, hDt⟩ := boolOf ((d0, d1) = (0, 0) ∨ dotP (d0, d1))
  obtain ⟨G, hG, hGf, hGt⟩ := boolOf (BagP live bs cl)
  obtain ⟨T, hT, hTf, hTt⟩ := boolOf (TagsP tags)
  obtain ⟨V, hV, hVf, hVt⟩ := boolOf (ViewP view)
  go_enter Tryz.func10, Tryz.ntmps10
  go_upto_region 2 with fail
  rw [← hw0.out, ← hx.out]
  go_cut [4] (fun s4 wx => s4 = .bool D ∧ Below w0.heap.size w0 wx)
  case first =>
    have c11 : w0.cell? ⟨x, 11, none⟩ = some (.int .i64 d0) := Kx.out.cell 11
    have c12 : w0.cell? ⟨x, 12, none⟩ = some (.int .i64 d1) := Kx.out.cell 12
    have hgd := fun (a b : Operand) (w : World) => guardD .eql a b #[.int .i64 d0, .int .i64 d1] #[.int .i64 0, .int .i64 0] w
    by_cases hz : (d0, d1) = (0, 0)
    · have heq := fun w => eqlD d0 d1 0 0 true (by simpa using hz) w
      obtain rfl : D = true := hD.out.2 (.inl hz)
      clear hz
      go_wp2_with fail
      go_meet
      exact ⟨rfl, Below.refl _ _⟩
    · have heq := fun w => eqlD d0 d1 0 0 false (by simpa using hz) w
      have HC : Hid (D = okD d0 d1) := by
        show _ = _
        rw [Bool.eq_iff_iff, hD.out]
        exact ⟨fun h => h.resolve_left hz, fun h => .inr h⟩
      clear hz
      go_wp2_with fail
      refine (check_any d0 d1 D HC _).mono ?_; rintro e w1 ⟨rfl, hB1⟩
      go_wp2_with fail
      go_meet
      exact ⟨rfl, hB1⟩
  case rest =>
    obtain ⟨rfl, hBc⟩ := hcut
    replace Kx := Lib.hid (Kx.out.below hBc Kx.out.lt)
    replace HB0 := Lib.hid (bNext HB0.out hBc)
    replace HL := Lib.hid (HL.out.below hBc)
    clear hBc hD
    have c0 : wc.cell? ⟨x, 0, none⟩ = some (.int .i64 k) := Kx.out.cell 0
    have c1 : wc.cell? ⟨x, 1, none⟩ = some (.int .i64 f) := Kx.out.cell 1
    have c2 : wc.cell? ⟨x, 2, none⟩ = some (.int .i64 s) := Kx.out.cell 2
    have c3 : wc.cell? ⟨x, 3, none⟩ = some (.int .i64 p) := Kx.out.cell 3
    have c4 : wc.cell? ⟨x, 4, none⟩ = some (.int .i64 fl) := Kx.out.cell 4
    have c5 : wc.cell? ⟨x, 5, none⟩ = some (.string mark) := Kx.out.cell 5
    have c6 : wc.cell? ⟨x, 6, none⟩ = some (.slice am nl kl) := Kx.out.cell 6
    have c7 : wc.cell? ⟨x, 7, none⟩ = some (.slice ab nb kb) := Kx.out.cell 7
    have c8 : wc.cell? ⟨x, 8, none⟩ = some (.slice ac nc kc) := Kx.out.cell 8
    have c9 : wc.cell? ⟨x, 9, none⟩ = some (.slice ag ng kg) := Kx.out.cell 9
    have c10 : wc.cell? ⟨x, 10, none⟩ = some (.slice av nv kv) := Kx.out.cell 10
    have c11 : wc.cell? ⟨x, 11, none⟩ = some (.int .i64 d0) := Kx.out.cell 11
    have c12 : wc.cell? ⟨x, 12, none⟩ = some (.int .i64 d1) := Kx.out.cell 12
    have c13 : wc.cell? ⟨x, 13, none⟩ = some (.int .i64 rc) := Kx.out.cell 13
    have c14 : wc.cell? ⟨x, 14, none⟩ = some (.int .i64 lg) := Kx.out.cell 14
    cases bK
    · obtain rfl : r = false := notB hr.out fun h => of_decide_eq_false hbK.out.symm h.kind
      obtain rfl := hE.out
      go_wp2_with (go_at_call 35; first | (with_reducible (refine (HK.out _).mono ?_); rintro e w2 ⟨rfl, rfl⟩) | (with_reducible (refine (HF.out _).mono ?_); rintro e w2 ⟨rfl, rfl⟩) | (with_reducible (refine (HS.out _).mono ?_); rintro e w2 ⟨rfl, rfl⟩) | (with_reducible (refine (HP.out _).mono ?_); rintro e w2 ⟨rfl, rfl⟩) | (with_reducible (refine (HQ.out _).mono ?_); rintro e w2 ⟨rfl, rfl⟩) | (with_reducible (refine (HR.out _).mono ?_); rintro e w2 ⟨rfl, rfl⟩) | (with_reducible (refine (HG.out _).mono ?_); rintro e w2 ⟨rfl, rfl⟩))
      go_ret
      exact ⟨rfl, HB0.out⟩
    have gK : Hid (Btw k 1 8) := of_decide_eq_true (p := 1 ≤ k ∧ k ≤ 8) hbK.out.symm
    cases bF
    · obtain rfl : r = false := notB hr.out fun h => of_decide_eq_false hbF.out.symm h.frm
      obtain rfl := hE.out
      go_wp2_with (go_at_call 35; first | (with_reducible (refine (HK.out _).mono ?_); rintro e w2 ⟨rfl, rfl⟩) | (with_reducible (refine (HF.out _).mono ?_); rintro e w2 ⟨rfl, rfl⟩) | (with_reducible (refine (HS.out _).mono ?_); rintro e w2 ⟨rfl, rfl⟩) | (with_reducible (refine (HP.out _).mono ?_); rintro e w2 ⟨rfl, rfl⟩) | (with_reducible (refine (HQ.out _).mono ?_); rintro e w2 ⟨rfl, rfl⟩) | (with_reducible (refine (HR.out _).mono ?_); rintro e w2 ⟨rfl, rfl⟩) | (with_reducible (refine (HG.out _).mono ?_); rintro e w2 ⟨rfl, rfl⟩))
      go_ret
      exact ⟨rfl, HB0.out⟩
    have gF : Hid (Btw f 1 1099511627776) := of_decide_eq_true (p := 1 ≤ f ∧ f ≤ 1099511627776) hbF.out.symm
    cases bS
    · obtain rfl : r = false := notB hr.out fun h => of_decide_eq_false hbS.out.symm h.seq
      obtain rfl := hE.out
      go_wp2_with (go_at_call 35; first | (with_reducible (refine (HK.out _).mono ?_); rintro e w2 ⟨rfl, rfl⟩) | (with_reducible (refine (HF.out _).mono ?_); rintro e w2 ⟨rfl, rfl⟩) | (with_reducible (refine (HS.out _).mono ?_); rintro e w2 ⟨rfl, rfl⟩) | (with_reducible (refine (HP.out _).mono ?_); rintro e w2 ⟨rfl, rfl⟩) | (with_reducible (refine (HQ.out _).mono ?_); rintro e w2 ⟨rfl, rfl⟩) | (with_reducible (refine (HR.out _).mono ?_); rintro e w2 ⟨rfl, rfl⟩) | (with_reducible (refine (HG.out _).mono ?_); rintro e w2 ⟨rfl, rfl⟩))
      go_ret
      exact ⟨rfl, HB0.out⟩
    have gS : Hid (Btw s 0 1099511627776) := of_decide_eq_true (p := 0 ≤ s ∧ s ≤ 1099511627776) hbS.out.symm
    cases bP
    · obtain rfl : r = false := notB hr.out fun h => of_decide_eq_false hbP.out.symm h.part
      obtain rfl := hE.out
      go_wp2_with (go_at_call 35; first | (with_reducible (refine (HK.out _).mono ?_); rintro e w2 ⟨rfl, rfl⟩) | (with_reducible (refine (HF.out _).mono ?_); rintro e w2 ⟨rfl, rfl⟩) | (with_reducible (refine (HS.out _).mono ?_); rintro e w2 ⟨rfl, rfl⟩) | (with_reducible (refine (HP.out _).mono ?_); rintro e w2 ⟨rfl, rfl⟩) | (with_reducible (refine (HQ.out _).mono ?_); rintro e w2 ⟨rfl, rfl⟩) | (with_reducible (refine (HR.out _).mono ?_); rintro e w2 ⟨rfl, rfl⟩) | (with_reducible (refine (HG.out _).mono ?_); rintro e w2 ⟨rfl, rfl⟩))
      go_ret
      exact ⟨rfl, HB0.out⟩
    have gP : Hid (Btw p 0 15) := of_decide_eq_true (p := 0 ≤ p ∧ p ≤ 15) hbP.out.symm
    cases bQ
    · obtain rfl : r = false := notB hr.out fun h => of_decide_eq_false hbQ.out.symm h.flag
      obtain rfl := hE.out
      go_wp2_with (go_at_call 35; first | (with_reducible (refine (HK.out _).mono ?_); rintro e w2 ⟨rfl, rfl⟩) | (with_reducible (refine (HF.out _).mono ?_); rintro e w2 ⟨rfl, rfl⟩) | (with_reducible (refine (HS.out _).mono ?_); rintro e w2 ⟨rfl, rfl⟩) | (with_reducible (refine (HP.out _).mono ?_); rintro e w2 ⟨rfl, rfl⟩) | (with_reducible (refine (HQ.out _).mono ?_); rintro e w2 ⟨rfl, rfl⟩) | (with_reducible (refine (HR.out _).mono ?_); rintro e w2 ⟨rfl, rfl⟩) | (with_reducible (refine (HG.out _).mono ?_); rintro e w2 ⟨rfl, rfl⟩))
      go_ret
      exact ⟨rfl, HB0.out⟩
    have gQ : Hid (Btw fl 0 1) := of_decide_eq_true (p := 0 ≤ fl ∧ fl ≤ 1) hbQ.out.symm
    cases D
    · obtain rfl : r = false := notB hr.out fun h => hDf.out rfl h.dot
      obtain rfl := hE.out
      go_wp2_with (go_at_call 35; first | (with_reducible (refine (HK.out _).mono ?_); rintro e w2 ⟨rfl, rfl⟩) | (with_reducible (refine (HF.out _).mono ?_); rintro e w2 ⟨rfl, rfl⟩) | (with_reducible (refine (HS.out _).mono ?_); rintro e w2 ⟨rfl, rfl⟩) | (with_reducible (refine (HP.out _).mono ?_); rintro e w2 ⟨rfl, rfl⟩) | (with_reducible (refine (HQ.out _).mono ?_); rintro e w2 ⟨rfl, rfl⟩) | (with_reducible (refine (HR.out _).mono ?_); rintro e w2 ⟨rfl, rfl⟩) | (with_reducible (refine (HG.out _).mono ?_); rintro e w2 ⟨rfl, rfl⟩))
      go_ret
      exact ⟨rfl, HB0.out⟩
    have gD : Hid ((d0, d1) = (0, 0) ∨ dotP (d0, d1)) := hDt.out rfl
    cases bR
    · obtain rfl : r = false := notB hr.out fun h => of_decide_eq_false hbR.out.symm h.receipt
      obtain rfl := hE.out
      go_wp2_with (go_at_call 35; first | (with_reducible (refine (HK.out _).mono ?_); rintro e w2 ⟨rfl, rfl⟩) | (with_reducible (refine (HF.out _).mono ?_); rintro e w2 ⟨rfl, rfl⟩) | (with_reducible (refine (HS.out _).mono ?_); rintro e w2 ⟨rfl, rfl⟩) | (with_reducible (refine (HP.out _).mono ?_); rintro e w2 ⟨rfl, rfl⟩) | (with_reducible (refine (HQ.out _).mono ?_); rintro e w2 ⟨rfl, rfl⟩) | (with_reducible (refine (HR.out _).mono ?_); rintro e w2 ⟨rfl, rfl⟩) | (with_reducible (refine (HG.out _).mono ?_); rintro e w2 ⟨rfl, rfl⟩))
      go_ret
      exact ⟨rfl, HB0.out⟩
    have gR : Hid (Btw rc 0 1099511627776) := of_decide_eq_true (p := 0 ≤ rc ∧ rc ≤ 1099511627776) hbR.out.symm
    cases bG
    · obtain rfl : r = false := notB hr.out fun h => of_decide_eq_false hbG.out.symm h.long
      obtain rfl := hE.out
      go_wp2_with (go_at_call 35; first | (with_reducible (refine (HK.out _).mono ?_); rintro e w2 ⟨rfl, rfl⟩) | (with_reducible (refine (HF.out _).mono ?_); rintro e w2 ⟨rfl, rfl⟩) | (with_reducible (refine (HS.out _).mono ?_); rintro e w2 ⟨rfl, rfl⟩) | (with_reducible (refine (HP.out _).mono ?_); rintro e w2 ⟨rfl, rfl⟩) | (with_reducible (refine (HQ.out _).mono ?_); rintro e w2 ⟨rfl, rfl⟩) | (with_reducible (refine (HR.out _).mono ?_); rintro e w2 ⟨rfl, rfl⟩) | (with_reducible (refine (HG.out _).mono ?_); rintro e w2 ⟨rfl, rfl⟩))
      go_ret
      exact ⟨rfl, HB0.out⟩
    have gG : Hid (Btw lg 0 1073741824) := of_decide_eq_true (p := 0 ≤ lg ∧ lg ≤ 1073741824) hbG.out.symm
    by_cases hmk : mark.size ≤ 8000
    rotate_left
    · obtain rfl : r = false := notB hr.out fun h => hmk h.mark
      obtain rfl := hE.out
      have hmd : decide (8000 < (mark.size : Int)) = true := decide_eq_true (by omega)
      clear hmk
      go_wp2_with (go_at_call 35; first | (with_reducible (refine (HK.out _).mono ?_); rintro e w2 ⟨rfl, rfl⟩) | (with_reducible (refine (HF.out _).mono ?_); rintro e w2 ⟨rfl, rfl⟩) | (with_reducible (refine (HS.out _).mono ?_); rintro e w2 ⟨rfl, rfl⟩) | (with_reducible (refine (HP.out _).mono ?_); rintro e w2 ⟨rfl, rfl⟩) | (with_reducible (refine (HQ.out _).mono ?_); rintro e w2 ⟨rfl, rfl⟩) | (with_reducible (refine (HR.out _).mono ?_); rintro e w2 ⟨rfl, rfl⟩) | (with_reducible (refine (HG.out _).mono ?_); rintro e w2 ⟨rfl, rfl⟩))
      go_ret
      exact ⟨rfl, HB0.out⟩
    have HM : Hid (mark.size ≤ 8000) := hmk
    have hmd : decide (8000 < (mark.size : Int)) = false := decide_eq_false (by omega)
    clear hmk
    go_wp2_with (go_at_call 35; first | (with_reducible (refine (HK.out _).mono ?_); rintro e w2 ⟨rfl, rfl⟩) | (with_reducible (refine (HF.out _).mono ?_); rintro e w2 ⟨rfl, rfl⟩) | (with_reducible (refine (HS.out _).mono ?_); rintro e w2 ⟨rfl, rfl⟩) | (with_reducible (refine (HP.out _).mono ?_); rintro e w2 ⟨rfl, rfl⟩) | (with_reducible (refine (HQ.out _).mono ?_); rintro e w2 ⟨rfl, rfl⟩) | (with_reducible (refine (HR.out _).mono ?_); rintro e w2 ⟨rfl, rfl⟩) | (with_reducible (refine (HG.out _).mono ?_); rintro e w2 ⟨rfl, rfl⟩))
    refine (bagcheck_any am ab ac nl kl nb kb nc kc live bs cl HL.out.l0 HL.out.m0 HL.out.l1 HL.out.m1 HL.out.l2 HL.out.m2 G hG (errno G) rfl _ HL.out.s0 HL.out.s1 HL.out.s2).mono ?_; rintro e w1 ⟨rfl, hB1⟩
    replace Kx := Lib.hid (Kx.out.below hB1 Kx.out.lt)
    replace HB0 := Lib.hid (bNext HB0.out hB1)
    replace HL := Lib.hid (HL.out.below hB1)
    clear hB1 c0 c1 c2 c3 c4 c5 c6 c7 c8 c9 c10 c11 c12 c13 c14 hmd
    have c9 : w1.cell? ⟨x, 9, none⟩ = some (.slice ag ng kg) := Kx.out.cell 9
    cases G
    · obtain rfl : r = false := notB hr.out fun h => hGf.out rfl h.bag
      obtain rfl := hE.out
      simp only [errno]
      go_wp2_with fail
      go_ret
      exact ⟨rfl, HB0.out⟩
    have HG2 : Hid (BagP live bs cl) := hGt.out rfl
    simp only [errno]
    go_wp2_with fail
    refine (tagcheck_any ag ng kg tags HL.out.l3 HL.out.m3 T hT (errno T) rfl _ HL.out.s3).mono ?_; rintro e w2 ⟨rfl, hB1⟩
    replace Kx := Lib.hid (Kx.out.below hB1 Kx.out.lt)
    replace HB0 := Lib.hid (bNext HB0.out hB1)
    replace HL := Lib.hid (HL.out.below hB1)
    clear hB1 c9
    have c10 : w2.cell? ⟨x, 10, none⟩ = some (.slice av nv kv) := Kx.out.cell 10
    cases T
    · obtain rfl : r = false := notB hr.out fun h => hTf.out rfl h.tags
      obtain rfl := hE.out
      simp only [errno]
      go_wp2_with fail
      go_ret
      exact ⟨rfl, HB0.out⟩
    have HT2 : Hid (TagsP tags) := hTt.out rfl
    simp only [errno]
    go_wp2_with fail
    refine (viewcheck_any av nv kv view HL.out.l4 HL.out.m4 V hV (errno V) rfl _ HL.out.s4).mono ?_; rintro e w3 ⟨rfl, hB1⟩
    replace HB0 := Lib.hid (bNext HB0.out hB1)
    clear hB1 c10
    cases V
    · obtain rfl : r = false := notB hr.out fun h => hVf.out rfl h.view
      obtain rfl := hE.out
      simp only [errno]
      go_wp2_with fail
      go_ret
      exact ⟨rfl, HB0.out⟩
    have HV2 : Hid (ViewP view) := hVt.out rfl
    obtain rfl : r = true := hr.out.2 ⟨gK.out, gF.out, gS.out, gP.out, gQ.out, gD.out, gR.out, gG.out, HM.out, HG2.out, HT2.out, HV2.out⟩
    obtain rfl := hE.out
    simp only [errno]
    go_wp2_with fail
    go_ret
    exact ⟨rfl, HB0.out⟩
end Go.Proofs.YtfpjdmplepepjaaGreat

/-! WReadCtx: Contexts are read: the program's. -/
namespace Go.Proofs.YtfpjdmplepepjaaGreat
open Go.RowKit

/-- Of what was there only the blocks x, y, z may have turned. -/
structure Tri (x y z : Nat) (w w' : World) : Prop where
  size : w.heap.size ≤ w'.heap.size
  block : ∀ k, k < w.heap.size → k ≠ x → k ≠ y → k ≠ z → w'.heap[k]? = w.heap[k]?
theorem Tri.refl (x y z : Nat) (w : World) : Tri x y z w w := ⟨Nat.le_refl _, fun _ _ _ _ _ => rfl⟩
theorem Tri.trans {x y z : Nat} {a b c : World} (h : Tri x y z a b) (g : Tri x y z b c) : Tri x y z a c :=
  ⟨Nat.le_trans h.size g.size, fun k hk h1 h2 h3 => (g.block k (Nat.lt_of_lt_of_le hk h.size) h1 h2 h3).trans (h.block k hk h1 h2 h3)⟩
theorem Tri.ofBelow {x y z : Nat} {a b : World} (h : Below a.heap.size a b) : Tri x y z a b := ⟨h.size, fun k hk _ _ _ => h.block k hk⟩
theorem Tri.ofKept {x y z : Nat} {a b : World} (h : Kept x a b) : Tri x y z a b := ⟨h.size, fun k hk hx _ _ => h.block k hk hx⟩
theorem Tri.set {x y z : Nat} {a b : World} (h : Tri x y z a b) {p : Addr} (hp : p.block = x ∨ p.block = y ∨ p.block = z) (v : Value) : Tri x y z a (b.setCell p v) :=
  ⟨Nat.le_trans h.size (by simp), fun k hk h1 h2 h3 => (Below.heap_setCell _ _ _ _ (by rcases hp with e | e | e <;> (rw [e]; assumption))).trans (h.block k hk h1 h2 h3)⟩
theorem Tri.alloc {x y z : Nat} {a b : World} (h : Tri x y z a b) (o : Obj) : Tri x y z a (b.alloc o) := h.trans (Tri.ofBelow (bOld o))
theorem SlE.tri {α : Type} {enc : α → List Value} {k : Nat} {w w' : World} {ao : Option Addr} {xs : List α} {x y z : Nat} (h : SlE enc k w ao xs) (hn : ∀ a, ao = some a → a.block ≠ x ∧ a.block ≠ y ∧ a.block ≠ z) (ht : Tri x y z w w') : SlE enc k w' ao xs := by
  intro i hi
  obtain ⟨b, off, h1, h2, h3⟩ := h i hi
  obtain ⟨hx, hy, hz⟩ := hn _ h1
  refine ⟨b, off, h1, Nat.lt_of_lt_of_le h2 ht.size, fun j u hj c v hv => ?_⟩
  rw [← h3 j u hj c v hv]
  simp only [World.cell?, ht.block b h2 hx hy hz]
theorem SlP.row {w : World} {ao : Option Addr} {ps : List Dot2} (h : SlP w ao ps) : SlE eDot 2 w ao ps := by
  intro i hi
  obtain ⟨b, off, x, y, h1, h2, _⟩ := h.get i hi
  refine ⟨b, off, h1, h2, fun j p hj c u hu => ?_⟩
  subst h1
  have hj2 : j < ps.length := (List.getElem?_eq_some_iff.1 hj).1
  obtain ⟨b', off', x', y', e1, _, g0, g1, hp⟩ := h.get j hj2
  cases e1
  have hp2 := hp.out
  rw [hj] at hp2
  obtain rfl := Option.some.inj hp2
  match c, hu with
  | 0, hu => simp [eDot] at hu; rw [← hu]; exact g0
  | 1, hu => simp [eDot] at hu; rw [← hu]; exact g1
  | c + 2, hu => simp [eDot] at hu
theorem SlP.tri {w w' : World} {ao : Option Addr} {xs : List Dot2} {x y z : Nat} (h : SlP w ao xs) (hn : ∀ a, ao = some a → a.block ≠ x ∧ a.block ≠ y ∧ a.block ≠ z) (ht : Tri x y z w w') : SlP w' ao xs := (h.row.tri hn ht).pairs
/-- A context that is read. -/
def CtxR (p : List Dot2 × List Dot2) : Prop := (p.1.length ≤ 1000 ∧ p.2.length ≤ 1000) ∧ CtxP p.1 p.2
def ctxZ (p : List Dot2 × List Dot2) : List UInt8 := ctxL p.1 p.2
/-- What ctx.Read tells. -/
def CtxTells (b : Nat) (r : Rd) (w : World) (e : Ending) (w' : World) : Prop :=
  ∃ ab ac nb kb nc kc bs cl r', e = .returned (.agg #[.slice ab nb kb, .slice ac nc kc]) ∧ bs.length = nb ∧ cl.length = nc ∧ SlP w' ab bs ∧ SlP w' ac cl ∧ (∀ a, ab = some a → w.heap.size ≤ a.block) ∧ (∀ a, ac = some a → w.heap.size ≤ a.block) ∧ IsRd w' b r' ∧ Red CtxR ctxZ r r' (bs, cl) ∧ r'.left.size ≤ 1000000 ∧ Kept b w w'
theorem CtxP.dots {bs cl : List Dot2} (h : CtxP bs cl) : (∀ x ∈ bs, dotP x) ∧ ∀ x ∈ cl, dotP x := ⟨h.base.all (Nat.le_refl _), fun x hx => (h.cloud x hx).1⟩

set_option maxRecDepth 100000 in
set_option maxHeartbeats 4000000 in
theorem rctx_any (b : Nat) (r : Rd) (w : World) (hr : IsRd w b r) (hs : r.left.size ≤ 1000000) :
    Calls Tryz.prog 47 #[.pointer (some ⟨b, 0, none⟩)] w (CtxTells b r w) := by
  obtain ⟨x, hx⟩ := nm w.heap.size
  have hbx : b < x := by rw [hx.out]; exact hr.lt
  obtain ⟨w0, hw0⟩ := nm (w.alloc (.cells #[.slice none 0 0, .slice none 0 0] 27))
  have Kx : Hid (Blk w0 x #[.slice none 0 0, .slice none 0 0] 27) := by show Blk _ _ _ _; rw [hw0.out, hx.out]; exact Blk.new _ _ _
  have HR : Hid (IsRd w0 b r) := by show IsRd _ _ _; rw [hw0.out]; exact Blk.alloc hr _
  have HP : Hid (Kept b w w0) := by show Kept _ _ _; rw [hw0.out]; exact (Kept.refl _ _).alloc _
  have hwx : Hid (w.heap.size ≤ x) := Nat.le_of_eq hx.out.symm
  clear hr
  go_enter Tryz.func47, Tryz.ntmps47
  go_upto_region 1 with fail
  rw [← hw0.out, ← hx.out]
  go_wp2_with fail
  refine (readrow_red b r 1000 _ HR.out hs (by decide)).mono ?_; rintro e w1 ⟨ab, nb, kb, bs, r1, rfl, hnb, hsb, hfb, h1, hd1, hs1, hk⟩
  have hx0 : x < w0.heap.size := Kx.out.lt
  have HFB : Hid (∀ a, ab = some a → x < a.block) := fun a ha => by have := hfb a ha; omega
  replace Kx := Lib.hid (hk.blk Kx.out (by omega))
  replace HP := Lib.hid (HP.out.trans hk)
  obtain ⟨c, hc⟩ := nm w1.heap.size
  have hbc : b < c := by rw [hc.out]; exact h1.lt
  have hxc : x < c := by rw [hc.out]; exact Kx.out.lt
  have HSB : Hid (SlP w1 ab bs) := hsb
  have HLB : Hid (∀ a, ab = some a → 0 < bs.length → a.block < c) := by
    show ∀ a, _
    intro a ha h0
    obtain ⟨b', off', e, hl⟩ := HSB.out.base h0
    rw [ha] at e; cases e; rw [hc.out]; exact hl
  obtain ⟨w2, hw2⟩ := nm (w1.alloc (.cells #[.slice ab nb kb, .slice none 0 0] 27))
  have Kc : Hid (Blk w2 c #[.slice ab nb kb, .slice none 0 0] 27) := by show Blk _ _ _ _; rw [hw2.out, hc.out]; exact Blk.new _ _ _
  replace Kx : Hid (Blk w2 x #[.slice none 0 0, .slice none 0 0] 27) := by show Blk _ _ _ _; rw [hw2.out]; exact Kx.out.alloc _
  replace HR : Hid (IsRd w2 b r1) := by show IsRd _ _ _; rw [hw2.out]; exact Blk.alloc h1 _
  replace HP : Hid (Kept b w w2) := by show Kept _ _ _; rw [hw2.out]; exact HP.out.alloc _
  have HT : Hid (Tri b x c w1 w2) := by show Tri _ _ _ _ _; rw [hw2.out]; exact (Tri.refl _ _ _ _).alloc _
  have D1 := Lib.hid hd1
  have HNB := Lib.hid hnb
  clear h1 hk hsb hfb hd1 hnb
  go_upto_region 2 with fail
  rw [← hw2.out, ← hc.out]
  go_wp2_with fail
  refine (readrow_red b r1 1000 _ HR.out hs1 (by decide)).mono ?_; rintro e w3 ⟨ac, nc, kc, cl, r2, rfl, hnc, hsc, hfc, h3, hd2, hs2, hk⟩
  have hc2 : c < w2.heap.size := Kc.out.lt
  have HFC : Hid (∀ a, ac = some a → c < a.block) := fun a ha => by have := hfc a ha; omega
  replace Kx := Lib.hid (hk.blk Kx.out (by omega))
  replace Kc := Lib.hid (hk.blk Kc.out (by omega))
  replace HP := Lib.hid (HP.out.trans hk)
  replace HT := Lib.hid (HT.out.trans (Tri.ofKept hk))
  have cc0 : w3.cell? ⟨c, 0, none⟩ = some (.slice ab nb kb) := Kc.out.cell 0
  have cf0 : w3.frozen? ⟨c, 0, none⟩ = false := Kc.out.free 0
  have cc1 : w3.cell? ⟨c, 1, none⟩ = some (.slice none 0 0) := Kc.out.cell 1
  have cf1 : w3.frozen? ⟨c, 1, none⟩ = false := Kc.out.free 1
  obtain ⟨w4, hw4⟩ := nm (w3.setCell ⟨c, 1, none⟩ (.slice ac nc kc))
  have hwc : w.heap.size ≤ c := by rw [← hx.out]; omega
  replace Kx : Hid (Blk w4 x #[.slice none 0 0, .slice none 0 0] 27) := by show Blk _ _ _ _; rw [hw4.out]; exact Kx.out.setOther (by simp only; omega) _
  replace Kc : Hid (Blk w4 c #[.slice ab nb kb, .slice ac nc kc] 27) := by show Blk _ _ _ _; rw [hw4.out]; exact Kc.out.set 1 _
  replace HR : Hid (IsRd w4 b r2) := by show IsRd _ _ _; rw [hw4.out]; exact Blk.setOther h3 (by simp only; omega) _
  replace HP : Hid (Kept b w w4) := by show Kept _ _ _; rw [hw4.out]; exact HP.out.setNew hwc _
  replace HT : Hid (Tri b x c w1 w4) := by show Tri _ _ _ _ _; rw [hw4.out]; exact HT.out.set (.inr (.inr rfl)) _
  have HT2 : Hid (Tri b x c w3 w4) := by show Tri _ _ _ _ _; rw [hw4.out]; exact (Tri.refl _ _ _ _).set (p := ⟨c, 1, none⟩) (.inr (.inr rfl)) _
  have HNB2 : Hid (∀ a, ab = some a → 0 < bs.length → a.block ≠ b ∧ a.block ≠ x ∧ a.block ≠ c) := by
    show ∀ a, _
    intro a ha h0
    have h1 := HFB.out a ha
    have h2 := HLB.out a ha h0
    exact ⟨by omega, by omega, by omega⟩
  have HNC2 : Hid (∀ a, ac = some a → a.block ≠ b ∧ a.block ≠ x ∧ a.block ≠ c) := by
    show ∀ a, _
    intro a ha
    have h1 := HFC.out a ha
    exact ⟨by omega, by omega, by omega⟩
  have stay : ∀ w', Tri b x c w4 w' → SlP w' ab bs ∧ SlP w' ac cl := by
    intro w' ht
    refine ⟨?_, hsc.tri HNC2.out (HT2.out.trans ht)⟩
    rcases Nat.eq_zero_or_pos bs.length with h0 | h0
    · rw [List.length_eq_zero_iff.1 h0]; exact SlP.nil _ _
    · exact HSB.out.tri (fun a ha => HNB2.out a ha h0) (HT.out.trans ht)
  have STAY := Lib.hid stay
  have D2 := Lib.hid hd2
  have HNC := Lib.hid hnc
  have HSEQ : Hid (Red (fun p : List Dot2 × List Dot2 => RowP 1000 p.1 ∧ RowP 1000 p.2) (fun p => rowL dotL p.1 ++ rowL dotL p.2) r r2 (bs, cl)) := D1.out.seq D2.out ((tells_rowD (most := 1000) (by decide)).sub fun _ h => ⟨h.1, h.2.1⟩)
  have HIFF : Hid (∀ p : List Dot2 × List Dot2, ((RowP 1000 p.1 ∧ RowP 1000 p.2) ∧ CtxP p.1 p.2) ↔ CtxR p) := by
    show ∀ p : List Dot2 × List Dot2, _
    intro p
    refine ⟨fun h => ⟨⟨by have := h.1.1.1; omega, by have := h.1.2.1; omega⟩, h.2⟩, fun h => ⟨⟨⟨by have := h.1.1; omega, h.2.dots.1, h.2.asc1⟩, by have := h.1.2; omega, h.2.dots.2, h.2.asc2⟩, h.2⟩⟩
  have HTL : Hid (Tells (fun p : List Dot2 × List Dot2 => RowP 1000 p.1 ∧ RowP 1000 p.2) (fun p => rowL dotL p.1 ++ rowL dotL p.2)) :=
    ((tells_rowD (most := 1000) (by decide)).sub (Q := RowP 1000) fun _ h => ⟨h.1, h.2.1⟩).seq ((tells_rowD (most := 1000) (by decide)).sub (Q := RowP 1000) fun _ h => ⟨h.1, h.2.1⟩)
  have bad : ∀ w' r', r'.torn = true → r'.left.size ≤ 1000000 → (r2.torn = true ∨ ¬ CtxP bs cl) → IsRd w' b r' → Kept b w w' → CtxTells b r w (.returned (.agg #[.slice none 0 0, .slice none 0 0])) w' := by
    intro w' r' h1 h2 h3 h4 h5
    refine ⟨none, none, 0, 0, 0, 0, [], [], r', rfl, rfl, rfl, SlP.nil _ _, SlP.nil _ _, fun a h => (by cases h), fun a h => (by cases h), h4, ?_, h2, h5⟩
    exact (Red.fail (C := fun p : List Dot2 × List Dot2 => CtxP p.1 p.2) HSEQ.out HTL.out h3 h1).iff HIFF.out
  have BAD := Lib.hid bad
  have HWB : Hid (∀ a, ab = some a → w.heap.size ≤ a.block) := fun a ha => by have := HFB.out a ha; have := hwx.out; omega
  have HWC : Hid (∀ a, ac = some a → w.heap.size ≤ a.block) := fun a ha => by have := HFC.out a ha; omega
  clear h3 hk hsc hfc hd2 hnc stay bad HT HT2 HSB HLB HFB HFC HNB2 HNC2
  go_upto_region 3 with fail
  rw [← hw4.out]
  clear cc0 cc1 cf0 cf1
  obtain ⟨T, hT⟩ := nm r2.torn
  obtain ⟨t1, t2⟩ := r2.int_neg
  cases T
  rotate_left
  · have xc0 : w4.cell? ⟨x, 0, none⟩ = some (.slice none 0 0) := Kx.out.cell 0
    go_wp2_with fail
    refine (fine_is' true b r2 hT _ HR.out).mono ?_; rintro e w5 ⟨rfl, rfl⟩
    go_wp2_with fail
    refine (rint_any b r2 (-1) _ HR.out (by omega) (by decide)).mono ?_; rintro e w6 ⟨rfl, h6, hk6⟩
    have xb := hk6.blk Kx.out (by omega)
    clear xc0
    have xc0 := xb.cell 0
    have xc1 := xb.cell 1
    have xf0 := xb.free 0
    have xf1 := xb.free 1
    go_wp2_with fail
    refine bodyPost_ret (results_cell_row rfl _ _ x 27 #[.slice none 0 0, .slice none 0 0] (0, 0) _ rfl ((xb.set 0 _).set 1 _) Tryz.underlying27 rfl infoCx) rfl ?_
    exact BAD.out _ _ t1 (by omega) (.inl hT.out.symm) (Blk.setOther (Blk.setOther h6 (by simp only; omega) _) (by simp only; omega) _) (((HP.out.trans hk6).setNew hwx.out _).setNew hwx.out _)
  obtain ⟨i1, i2, i3⟩ := HSEQ.out.is hT.out.symm
  have HLN : Hid (bs.length ≤ 1000 ∧ cl.length ≤ 1000) := ⟨by have := i2.1.1; simp only at this; omega, by have := i2.2.1; simp only at this; omega⟩
  clear i1 i2 i3
  have hnb6 : nb ≤ 1000000 := by rw [← HNB.out]; have := HLN.out.1; omega
  have hnc6 : nc ≤ 1000000 := by rw [← HNC.out]; have := HLN.out.2; omega
  obtain ⟨B, hB, hBf, hBt⟩ := boolOf (CtxP bs cl)
  obtain ⟨E, hE⟩ := nm (errno B)
  obtain ⟨s1, s2⟩ := STAY.out w4 (Tri.refl _ _ _ _)
  have cc0 : w4.cell? ⟨c, 0, none⟩ = some (.slice ab nb kb) := Kc.out.cell 0
  have cc1 : w4.cell? ⟨c, 1, none⟩ = some (.slice ac nc kc) := Kc.out.cell 1
  go_wp2_with fail
  refine (fine_is' false b r2 hT _ HR.out).mono ?_; rintro e w5 ⟨rfl, rfl⟩
  go_wp2_with fail
  refine (ctxcheck_any ab ac nb kb nc kc bs cl HNB hnb6 HNC hnc6 B hB E hE _ s1 s2).mono ?_; rintro e w6 ⟨rfl, hB6⟩
  have hx4 := Kx.out.lt
  have hc4 := Kc.out.lt
  have hb4 := HR.out.lt
  replace Kx := Lib.hid (Kx.out.below hB6 hx4)
  replace Kc := Lib.hid (Kc.out.below hB6 hc4)
  replace HR : Hid (IsRd w6 b r2) := Blk.below HR.out hB6 hb4
  replace HP := Lib.hid (HP.out.trans (Kept.ofBelow hB6))
  have HT6 : Hid (Tri b x c w4 w6) := Tri.ofBelow hB6
  clear cc0 cc1 s1 s2 hB6
  have hE2 := hE.out
  cases B
  · obtain rfl : E = 1 := hE2
    have xc0 : w6.cell? ⟨x, 0, none⟩ = some (.slice none 0 0) := Kx.out.cell 0
    go_wp2_with fail
    refine (rint_any b r2 (-1) _ HR.out (by omega) (by decide)).mono ?_; rintro e w7 ⟨rfl, h7, hk7⟩
    have xb := hk7.blk Kx.out (by omega)
    clear xc0
    have xc0 := xb.cell 0
    have xc1 := xb.cell 1
    have xf0 := xb.free 0
    have xf1 := xb.free 1
    go_wp2_with fail
    refine bodyPost_ret (results_cell_row rfl _ _ x 27 #[.slice none 0 0, .slice none 0 0] (0, 0) _ rfl ((xb.set 0 _).set 1 _) Tryz.underlying27 rfl infoCx) rfl ?_
    exact BAD.out _ _ t1 (by omega) (.inr (hBf.out (by first | exact rfl | exact trivial))) (Blk.setOther (Blk.setOther h7 (by simp only; omega) _) (by simp only; omega) _) (((HP.out.trans hk7).setNew hwx.out _).setNew hwx.out _)
  · obtain rfl : E = 0 := hE2
    have xb := Kx.out
    have xc0 := xb.cell 0
    have xc1 := xb.cell 1
    have xf0 := xb.free 0
    have xf1 := xb.free 1
    have cc0 : w6.cell? ⟨c, 0, none⟩ = some (.slice ab nb kb) := Kc.out.cell 0
    have cc1 : w6.cell? ⟨c, 1, none⟩ = some (.slice ac nc kc) := Kc.out.cell 1
    go_wp2_with fail
    refine bodyPost_ret (results_cell_row rfl _ _ x 27 #[.slice ab nb kb, .slice ac nc kc] (0, 0) _ rfl ((xb.set 0 _).set 1 _) Tryz.underlying27 rfl infoCx) rfl ?_
    have h7 := STAY.out _ ((HT6.out.set (p := ⟨x, 0, none⟩) (.inr (.inl rfl)) (.slice ab nb kb)).set (p := ⟨x, 1, none⟩) (.inr (.inl rfl)) (.slice ac nc kc))
    refine ⟨ab, ac, nb, kb, nc, kc, bs, cl, r2, rfl, HNB.out, HNC.out, h7.1, h7.2, HWB.out, HWC.out, (Blk.setOther (Blk.setOther HR.out (by simp only; omega) _) (by simp only; omega) _), ?_, hs2, ((HP.out.setNew hwx.out _).setNew hwx.out _)⟩
    exact (Red.pass (C := fun p : List Dot2 × List Dot2 => CtxP p.1 p.2) HSEQ.out fun _ => hBt.out (by first | exact rfl | exact trivial)).iff HIFF.out
end Go.Proofs.YtfpjdmplepepjaaGreat

/-! WireCheck: Wire's numbers and Check, of what has no lists. -/
namespace Go.Proofs.YtfpjdmplepepjaaGreat
open Go.RowKit

theorem infoNine : (Tryz.prog.info? 48).map (·.size) = some 9 := by kernel_rfl
set_option maxRecDepth 100000 in
set_option maxHeartbeats 8000000 in
theorem numbers_any (k f s p fl d0 d1 rc lg : Int) (w : World) :
    Calls Tryz.prog 29 #[.agg #[.int .i64 k, .int .i64 f, .int .i64 s, .int .i64 p, .int .i64 fl, .string ⟨#[]⟩, .slice none 0 0, .slice none 0 0, .slice none 0 0, .slice none 0 0, .slice none 0 0, .int .i64 d0, .int .i64 d1, .int .i64 rc, .int .i64 lg]] w fun e w' => e = .returned (.agg #[.int .i64 k, .int .i64 f, .int .i64 s, .int .i64 p, .int .i64 fl, .int .i64 d0, .int .i64 d1, .int .i64 rc, .int .i64 lg]) ∧ Below w.heap.size w w' := by
  go_enter Tryz.func29, Tryz.ntmps29
  go_wp2_with fail
  refine bodyPost_ret (results_cell_row rfl _ _ (w.heap.size + 1) 48 #[.int .i64 k, .int .i64 f, .int .i64 s, .int .i64 p, .int .i64 fl, .int .i64 d0, .int .i64 d1, .int .i64 rc, .int .i64 lg] (0, 0) _ rfl (blk_at (by simp)) Tryz.underlying48 rfl infoNine) rfl ?_
  exact ⟨rfl, bNew (bOld _) _⟩

set_option maxRecDepth 100000 in
set_option maxHeartbeats 8000000 in
theorem within_t (n l m : Int) (w : World) (h1 : l ≤ n) (h2 : n ≤ m) :
    Calls Tryz.prog 35 #[.int .i64 n, .int .i64 l, .int .i64 m] w fun e w' => e = .returned (.bool true) ∧ w = w' := by
  have g1 : n ≥ l := h1
  go_enter Tryz.func35, Tryz.ntmps35
  go_wp2_with fail
  go_ret
  exact ⟨rfl, rfl⟩
set_option maxRecDepth 100000 in
set_option maxHeartbeats 8000000 in
theorem within_f (n l m : Int) (w : World) (h1 : ¬ l ≤ n) :
    Calls Tryz.prog 35 #[.int .i64 n, .int .i64 l, .int .i64 m] w fun e w' => e = .returned (.bool false) ∧ w = w' := by
  have g1 : decide (n ≥ l) = false := decide_eq_false h1
  go_enter Tryz.func35, Tryz.ntmps35
  go_wp2_with fail
  go_ret
  exact ⟨rfl, rfl⟩
set_option maxRecDepth 100000 in
set_option maxHeartbeats 8000000 in
theorem dotin_t (n : Int) (w : World) (h1 : 1 ≤ n) (h2 : n ≤ 1099511627776) :
    Calls Tryz.prog 64 #[.int .i64 n] w fun e w' => e = .returned (.bool true) ∧ w = w' := by
  have g1 : n ≥ 1 := h1
  go_enter Tryz.func64, Tryz.ntmps64
  go_wp2_with fail
  go_ret
  exact ⟨rfl, rfl⟩
set_option maxRecDepth 100000 in
set_option maxHeartbeats 8000000 in
theorem dotck_t (n m : Int) (w : World) (h1 : 1 ≤ n) (h2 : n ≤ 1099511627776) (h3 : 1 ≤ m) (h4 : m ≤ 1099511627776) :
    Calls Tryz.prog 36 #[.agg #[.int .i64 n, .int .i64 m]] w fun e w' => e = .returned (.bool true) ∧ w' = w.alloc (.cells #[.int .i64 n, .int .i64 m] 33) := by
  have H1 : Hid (∀ w, Calls Tryz.prog 64 #[.int .i64 n] w fun e w' => e = .returned (.bool true) ∧ w = w') := fun w => dotin_t n w h1 h2
  have H2 : Hid (∀ w, Calls Tryz.prog 64 #[.int .i64 m] w fun e w' => e = .returned (.bool true) ∧ w = w') := fun w => dotin_t m w h3 h4
  go_enter Tryz.func36, Tryz.ntmps36
  go_wp2_with (go_at_call 64; first | (with_reducible (refine (H1.out _).mono ?_); rintro e w2 ⟨rfl, rfl⟩) | (with_reducible (refine (H2.out _).mono ?_); rintro e w2 ⟨rfl, rfl⟩))
  go_ret
  exact ⟨rfl, rfl⟩

set_option maxRecDepth 100000 in
set_option maxHeartbeats 8000000 in
theorem check_ok (k f s p fl d0 d1 rc lg : Int) (h : 1 ≤ k ∧ k ≤ 8 ∧ 1 ≤ f ∧ f ≤ 1099511627776 ∧ 0 ≤ s ∧ s ≤ 1099511627776 ∧ 0 ≤ p ∧ p ≤ 15 ∧ 0 ≤ fl ∧ fl ≤ 1 ∧ 0 ≤ rc ∧ rc ≤ 1099511627776 ∧ 0 ≤ lg ∧ lg ≤ 1073741824) (hd : d0 = 0 ∧ d1 = 0 ∨ (1 ≤ d0 ∧ d0 ≤ 1099511627776) ∧ 1 ≤ d1 ∧ d1 ≤ 1099511627776) (w : World) :
    Calls Tryz.prog 10 #[.agg #[.int .i64 k, .int .i64 f, .int .i64 s, .int .i64 p, .int .i64 fl, .string ⟨#[]⟩, .slice none 0 0, .slice none 0 0, .slice none 0 0, .slice none 0 0, .slice none 0 0, .int .i64 d0, .int .i64 d1, .int .i64 rc, .int .i64 lg]] w fun e w' => e = .returned (.int .i64 0) ∧ Below w.heap.size w w' := by
  have HK : Hid (∀ w, Calls Tryz.prog 35 #[.int .i64 k, .int .i64 1, .int .i64 8] w fun e w' => e = .returned (.bool true) ∧ w = w') := fun w => within_t k 1 8 w (by omega) (by omega)
  have HF : Hid (∀ w, Calls Tryz.prog 35 #[.int .i64 f, .int .i64 1, .int .i64 1099511627776] w fun e w' => e = .returned (.bool true) ∧ w = w') := fun w => within_t f 1 1099511627776 w (by omega) (by omega)
  have HS : Hid (∀ w, Calls Tryz.prog 35 #[.int .i64 s, .int .i64 0, .int .i64 1099511627776] w fun e w' => e = .returned (.bool true) ∧ w = w') := fun w => within_t s 0 1099511627776 w (by omega) (by omega)
  have HP : Hid (∀ w, Calls Tryz.prog 35 #[.int .i64 p, .int .i64 0, .int .i64 15] w fun e w' => e = .returned (.bool true) ∧ w = w') := fun w => within_t p 0 15 w (by omega) (by omega)
  have HL : Hid (∀ w, Calls Tryz.prog 35 #[.int .i64 fl, .int .i64 0, .int .i64 1] w fun e w' => e = .returned (.bool true) ∧ w = w') := fun w => within_t fl 0 1 w (by omega) (by omega)
  have HR : Hid (∀ w, Calls Tryz.prog 35 #[.int .i64 rc, .int .i64 0, .int .i64 1099511627776] w fun e w' => e = .returned (.bool true) ∧ w = w') := fun w => within_t rc 0 1099511627776 w (by omega) (by omega)
  have HG : Hid (∀ w, Calls Tryz.prog 35 #[.int .i64 lg, .int .i64 0, .int .i64 1073741824] w fun e w' => e = .returned (.bool true) ∧ w = w') := fun w => within_t lg 0 1073741824 w (by omega) (by omega)
  obtain ⟨w0, hw0⟩ := nm (w.alloc (.cells #[.int .i64 k, .int .i64 f, .int .i64 s, .int .i64 p, .int .i64 fl, .string ⟨#[]⟩, .slice none 0 0, .slice none 0 0, .slice none 0 0, .slice none 0 0, .slice none 0 0, .int .i64 d0, .int .i64 d1, .int .i64 rc, .int .i64 lg] 35))
  obtain ⟨x, hx⟩ := nm w.heap.size
  have Kx : Hid (Blk w0 x #[.int .i64 k, .int .i64 f, .int .i64 s, .int .i64 p, .int .i64 fl, .string ⟨#[]⟩, .slice none 0 0, .slice none 0 0, .slice none 0 0, .slice none 0 0, .slice none 0 0, .int .i64 d0, .int .i64 d1, .int .i64 rc, .int .i64 lg] 35) := by show Blk _ _ _ _; rw [hw0.out, hx.out]; exact Blk.new _ _ _
  have HB0 : Hid (Below w.heap.size w w0) := by rw [hw0.out]; exact bOld _
  clear h
  rcases hd with ⟨rfl, rfl⟩ | ⟨⟨g1, g2⟩, g3, g4⟩
  · have heq := fun w => eqlD 0 0 0 0 true (by simp) w
    have hgd := fun (a b : Operand) (w : World) => guardD .eql a b #[.int .i64 0, .int .i64 0] #[.int .i64 0, .int .i64 0] w
    go_enter Tryz.func10, Tryz.ntmps10
    go_upto_region 1 with fail
    rw [← hw0.out, ← hx.out]
    have c0 : w0.cell? ⟨x, 0, none⟩ = some (.int .i64 k) := Kx.out.cell 0
    have c1 : w0.cell? ⟨x, 1, none⟩ = some (.int .i64 f) := Kx.out.cell 1
    have c2 : w0.cell? ⟨x, 2, none⟩ = some (.int .i64 s) := Kx.out.cell 2
    have c3 : w0.cell? ⟨x, 3, none⟩ = some (.int .i64 p) := Kx.out.cell 3
    have c4 : w0.cell? ⟨x, 4, none⟩ = some (.int .i64 fl) := Kx.out.cell 4
    have c5 : w0.cell? ⟨x, 5, none⟩ = some (.string ⟨#[]⟩) := Kx.out.cell 5
    have c6 : w0.cell? ⟨x, 6, none⟩ = some (.slice none 0 0) := Kx.out.cell 6
    have c7 : w0.cell? ⟨x, 7, none⟩ = some (.slice none 0 0) := Kx.out.cell 7
    have c8 : w0.cell? ⟨x, 8, none⟩ = some (.slice none 0 0) := Kx.out.cell 8
    have c9 : w0.cell? ⟨x, 9, none⟩ = some (.slice none 0 0) := Kx.out.cell 9
    have c10 : w0.cell? ⟨x, 10, none⟩ = some (.slice none 0 0) := Kx.out.cell 10
    have c11 : w0.cell? ⟨x, 11, none⟩ = some (.int .i64 0) := Kx.out.cell 11
    have c12 : w0.cell? ⟨x, 12, none⟩ = some (.int .i64 0) := Kx.out.cell 12
    have c13 : w0.cell? ⟨x, 13, none⟩ = some (.int .i64 rc) := Kx.out.cell 13
    have c14 : w0.cell? ⟨x, 14, none⟩ = some (.int .i64 lg) := Kx.out.cell 14
    go_wp2_with (go_at_call 35; first | (with_reducible (refine (HK.out _).mono ?_); rintro e w2 ⟨rfl, rfl⟩) | (with_reducible (refine (HF.out _).mono ?_); rintro e w2 ⟨rfl, rfl⟩) | (with_reducible (refine (HS.out _).mono ?_); rintro e w2 ⟨rfl, rfl⟩) | (with_reducible (refine (HP.out _).mono ?_); rintro e w2 ⟨rfl, rfl⟩) | (with_reducible (refine (HL.out _).mono ?_); rintro e w2 ⟨rfl, rfl⟩) | (with_reducible (refine (HR.out _).mono ?_); rintro e w2 ⟨rfl, rfl⟩) | (with_reducible (refine (HG.out _).mono ?_); rintro e w2 ⟨rfl, rfl⟩))
    refine (bag0 _).mono ?_; rintro e w6 ⟨rfl, hB6⟩
    have K6 := Kx.out.below hB6 Kx.out.lt
    have e9 : w6.cell? ⟨x, 9, none⟩ = some (.slice none 0 0) := K6.cell 9
    have e10 : w6.cell? ⟨x, 10, none⟩ = some (.slice none 0 0) := K6.cell 10
    have HB6 := Lib.hid (bNext HB0.out hB6)
    clear hB6 K6
    go_wp2_with (first | (go_at_call 38; refine (names0 _).mono ?_; rintro e w7 ⟨rfl, rfl⟩) | (go_at_call 39; refine (views0 _).mono ?_; rintro e w8 ⟨rfl, rfl⟩))
    go_ret
    exact ⟨rfl, HB6.out⟩
  · have hne : (d0, d1) ≠ (0, 0) := by intro e; cases e; omega
    have heq := fun w => eqlD d0 d1 0 0 false (by simpa using hne) w
    have hgd := fun (a b : Operand) (w : World) => guardD .eql a b #[.int .i64 d0, .int .i64 d1] #[.int .i64 0, .int .i64 0] w
    have HD : Hid (∀ w, Calls Tryz.prog 36 #[.agg #[.int .i64 d0, .int .i64 d1]] w fun e w' => e = .returned (.bool true) ∧ w' = w.alloc (.cells #[.int .i64 d0, .int .i64 d1] 33)) := fun w => dotck_t d0 d1 w g1 g2 g3 g4
    clear hne
    go_enter Tryz.func10, Tryz.ntmps10
    go_upto_region 1 with fail
    rw [← hw0.out, ← hx.out]
    have c0 : w0.cell? ⟨x, 0, none⟩ = some (.int .i64 k) := Kx.out.cell 0
    have c1 : w0.cell? ⟨x, 1, none⟩ = some (.int .i64 f) := Kx.out.cell 1
    have c2 : w0.cell? ⟨x, 2, none⟩ = some (.int .i64 s) := Kx.out.cell 2
    have c3 : w0.cell? ⟨x, 3, none⟩ = some (.int .i64 p) := Kx.out.cell 3
    have c4 : w0.cell? ⟨x, 4, none⟩ = some (.int .i64 fl) := Kx.out.cell 4
    have c5 : w0.cell? ⟨x, 5, none⟩ = some (.string ⟨#[]⟩) := Kx.out.cell 5
    have c6 : w0.cell? ⟨x, 6, none⟩ = some (.slice none 0 0) := Kx.out.cell 6
    have c7 : w0.cell? ⟨x, 7, none⟩ = some (.slice none 0 0) := Kx.out.cell 7
    have c8 : w0.cell? ⟨x, 8, none⟩ = some (.slice none 0 0) := Kx.out.cell 8
    have c9 : w0.cell? ⟨x, 9, none⟩ = some (.slice none 0 0) := Kx.out.cell 9
    have c10 : w0.cell? ⟨x, 10, none⟩ = some (.slice none 0 0) := Kx.out.cell 10
    have c11 : w0.cell? ⟨x, 11, none⟩ = some (.int .i64 d0) := Kx.out.cell 11
    have c12 : w0.cell? ⟨x, 12, none⟩ = some (.int .i64 d1) := Kx.out.cell 12
    have c13 : w0.cell? ⟨x, 13, none⟩ = some (.int .i64 rc) := Kx.out.cell 13
    have c14 : w0.cell? ⟨x, 14, none⟩ = some (.int .i64 lg) := Kx.out.cell 14
    go_upto_region 3 with (go_at_call 36; with_reducible (refine (HD.out _).mono ?_); rintro e wd ⟨rfl, rfl⟩)
    obtain ⟨w1, hw1⟩ := nm (w0.alloc (.cells #[.int .i64 d0, .int .i64 d1] 33))
    have K1 : Hid (Blk w1 x #[.int .i64 k, .int .i64 f, .int .i64 s, .int .i64 p, .int .i64 fl, .string ⟨#[]⟩, .slice none 0 0, .slice none 0 0, .slice none 0 0, .slice none 0 0, .slice none 0 0, .int .i64 d0, .int .i64 d1, .int .i64 rc, .int .i64 lg] 35) := by show Blk _ _ _ _; rw [hw1.out]; exact Kx.out.alloc _
    have HB1 : Hid (Below w.heap.size w w1) := by rw [hw1.out]; exact bNew HB0.out _
    rw [← hw1.out]
    have m0 : w1.cell? ⟨x, 0, none⟩ = some (.int .i64 k) := K1.out.cell 0
    have m1 : w1.cell? ⟨x, 1, none⟩ = some (.int .i64 f) := K1.out.cell 1
    have m2 : w1.cell? ⟨x, 2, none⟩ = some (.int .i64 s) := K1.out.cell 2
    have m3 : w1.cell? ⟨x, 3, none⟩ = some (.int .i64 p) := K1.out.cell 3
    have m4 : w1.cell? ⟨x, 4, none⟩ = some (.int .i64 fl) := K1.out.cell 4
    have m5 : w1.cell? ⟨x, 5, none⟩ = some (.string ⟨#[]⟩) := K1.out.cell 5
    have m6 : w1.cell? ⟨x, 6, none⟩ = some (.slice none 0 0) := K1.out.cell 6
    have m7 : w1.cell? ⟨x, 7, none⟩ = some (.slice none 0 0) := K1.out.cell 7
    have m8 : w1.cell? ⟨x, 8, none⟩ = some (.slice none 0 0) := K1.out.cell 8
    have m9 : w1.cell? ⟨x, 9, none⟩ = some (.slice none 0 0) := K1.out.cell 9
    have m10 : w1.cell? ⟨x, 10, none⟩ = some (.slice none 0 0) := K1.out.cell 10
    have m11 : w1.cell? ⟨x, 11, none⟩ = some (.int .i64 d0) := K1.out.cell 11
    have m12 : w1.cell? ⟨x, 12, none⟩ = some (.int .i64 d1) := K1.out.cell 12
    have m13 : w1.cell? ⟨x, 13, none⟩ = some (.int .i64 rc) := K1.out.cell 13
    have m14 : w1.cell? ⟨x, 14, none⟩ = some (.int .i64 lg) := K1.out.cell 14
    go_wp2_with (go_at_call 35; first | (with_reducible (refine (HK.out _).mono ?_); rintro e w2 ⟨rfl, rfl⟩) | (with_reducible (refine (HF.out _).mono ?_); rintro e w2 ⟨rfl, rfl⟩) | (with_reducible (refine (HS.out _).mono ?_); rintro e w2 ⟨rfl, rfl⟩) | (with_reducible (refine (HP.out _).mono ?_); rintro e w2 ⟨rfl, rfl⟩) | (with_reducible (refine (HL.out _).mono ?_); rintro e w2 ⟨rfl, rfl⟩) | (with_reducible (refine (HR.out _).mono ?_); rintro e w2 ⟨rfl, rfl⟩) | (with_reducible (refine (HG.out _).mono ?_); rintro e w2 ⟨rfl, rfl⟩))
    refine (bag0 _).mono ?_; rintro e w6 ⟨rfl, hB6⟩
    have K6 := K1.out.below hB6 K1.out.lt
    have e9 : w6.cell? ⟨x, 9, none⟩ = some (.slice none 0 0) := K6.cell 9
    have e10 : w6.cell? ⟨x, 10, none⟩ = some (.slice none 0 0) := K6.cell 10
    have HB6 := Lib.hid (bNext HB1.out hB6)
    clear hB6 K6
    go_wp2_with (first | (go_at_call 38; refine (names0 _).mono ?_; rintro e w7 ⟨rfl, rfl⟩) | (go_at_call 39; refine (views0 _).mono ?_; rintro e w8 ⟨rfl, rfl⟩))
    go_ret
    exact ⟨rfl, HB6.out⟩

set_option maxRecDepth 100000 in
set_option maxHeartbeats 8000000 in
theorem check_zero (w : World) :
    Calls Tryz.prog 10 #[.agg #[.int .i64 0, .int .i64 0, .int .i64 0, .int .i64 0, .int .i64 0, .string ⟨#[]⟩, .slice none 0 0, .slice none 0 0, .slice none 0 0, .slice none 0 0, .slice none 0 0, .int .i64 0, .int .i64 0, .int .i64 0, .int .i64 0]] w fun e w' => e = .returned (.int .i64 1) ∧ Below w.heap.size w w' := by
  have heq := fun w => eqlD 0 0 0 0 true (by simp) w
  have hgd := fun (a b : Operand) (w : World) => guardD .eql a b #[.int .i64 0, .int .i64 0] #[.int .i64 0, .int .i64 0] w
  have HK : Hid (∀ w, Calls Tryz.prog 35 #[.int .i64 0, .int .i64 1, .int .i64 8] w fun e w' => e = .returned (.bool false) ∧ w = w') := fun w => within_f 0 1 8 w (by decide)
  go_enter Tryz.func10, Tryz.ntmps10
  go_wp2_with (go_at_call 35; with_reducible (refine (HK.out _).mono ?_); rintro e w2 ⟨rfl, rfl⟩)
  go_ret
  exact ⟨rfl, bOld _⟩
end Go.Proofs.YtfpjdmplepepjaaGreat

/-! WireBytes: Wire's Bytes, of what has no lists. -/
namespace Go.Proofs.YtfpjdmplepepjaaGreat
open Go.RowKit

/-- What is written of numbers alone. -/
def wireL (zs : List Int) : List UInt8 := numsL zs ++ [0, 0, 0, 0, 0, 0]
theorem SlAt.ofBlk {w : World} {b : Nat} {t : TypeId} {zs : List Int} (h : Blk w b (zs.map (Value.int .i64)).toArray t) : SlAt w (some ⟨b, 0, none⟩) (zs.map (Value.int .i64)) := by
  intro k _
  refine ⟨b, 0, rfl, h.lt, fun j _ => ?_⟩
  rw [h.cell, Nat.zero_add]
  simp
set_option maxRecDepth 100000 in
set_option maxHeartbeats 8000000 in
theorem bytes_ok (k f s p fl d0 d1 rc lg : Int) (h : 1 ≤ k ∧ k ≤ 8 ∧ 1 ≤ f ∧ f ≤ 1099511627776 ∧ 0 ≤ s ∧ s ≤ 1099511627776 ∧ 0 ≤ p ∧ p ≤ 15 ∧ 0 ≤ fl ∧ fl ≤ 1 ∧ 0 ≤ rc ∧ rc ≤ 1099511627776 ∧ 0 ≤ lg ∧ lg ≤ 1073741824) (hd : d0 = 0 ∧ d1 = 0 ∨ (1 ≤ d0 ∧ d0 ≤ 1099511627776) ∧ 1 ≤ d1 ∧ d1 ≤ 1099511627776) (w : World) :
    Calls Tryz.prog 9 #[.agg #[.int .i64 k, .int .i64 f, .int .i64 s, .int .i64 p, .int .i64 fl, .string ⟨#[]⟩, .slice none 0 0, .slice none 0 0, .slice none 0 0, .slice none 0 0, .slice none 0 0, .int .i64 d0, .int .i64 d1, .int .i64 rc, .int .i64 lg]] w fun e w' => e = .returned (.tuple #[.string (ofL (wireL [k, f, s, p, fl, d0, d1, rc, lg])), .int .i64 0]) ∧ Below w.heap.size w w' := by
  obtain ⟨w0, hw0⟩ := nm (w.alloc (.cells #[.int .i64 k, .int .i64 f, .int .i64 s, .int .i64 p, .int .i64 fl, .string ⟨#[]⟩, .slice none 0 0, .slice none 0 0, .slice none 0 0, .slice none 0 0, .slice none 0 0, .int .i64 d0, .int .i64 d1, .int .i64 rc, .int .i64 lg] 35))
  obtain ⟨x, hx⟩ := nm w.heap.size
  have Kx : Hid (Blk w0 x #[.int .i64 k, .int .i64 f, .int .i64 s, .int .i64 p, .int .i64 fl, .string ⟨#[]⟩, .slice none 0 0, .slice none 0 0, .slice none 0 0, .slice none 0 0, .slice none 0 0, .int .i64 d0, .int .i64 d1, .int .i64 rc, .int .i64 lg] 35) := by show Blk _ _ _ _; rw [hw0.out, hx.out]; exact Blk.new _ _ _
  have HB0 : Hid (Below w.heap.size w w0) := by rw [hw0.out]; exact bOld _
  have HCK := Lib.hid (check_ok k f s p fl d0 d1 rc lg h hd w0)
  have hz : ∀ z ∈ ([k, f, s, p, fl, d0, d1, rc, lg] : List Int), z ≤ 9223372036854775807 := by
    intro z hz
    simp only [List.mem_cons, List.not_mem_nil, or_false] at hz
    rcases hz with rfl | rfl | rfl | rfl | rfl | rfl | rfl | rfl | rfl <;> omega
  have HZ := Lib.hid hz
  obtain ⟨zs, hzs⟩ := nm ([k, f, s, p, fl, d0, d1, rc, lg] : List Int)
  have hzl : Hid (zs.length = 9) := by show _ = _; rw [hzs.out]; rfl
  rw [← hzs.out]
  rw [← hzs.out] at HZ
  clear h hd hz
  go_enter Tryz.func9, Tryz.ntmps9
  go_upto_region 1 with fail
  rw [← hw0.out, ← hx.out]
  have c0 : w0.cell? ⟨x, 0, none⟩ = some (.int .i64 k) := Kx.out.cell 0
  have c1 : w0.cell? ⟨x, 1, none⟩ = some (.int .i64 f) := Kx.out.cell 1
  have c2 : w0.cell? ⟨x, 2, none⟩ = some (.int .i64 s) := Kx.out.cell 2
  have c3 : w0.cell? ⟨x, 3, none⟩ = some (.int .i64 p) := Kx.out.cell 3
  have c4 : w0.cell? ⟨x, 4, none⟩ = some (.int .i64 fl) := Kx.out.cell 4
  have c5 : w0.cell? ⟨x, 5, none⟩ = some (.string ⟨#[]⟩) := Kx.out.cell 5
  have c6 : w0.cell? ⟨x, 6, none⟩ = some (.slice none 0 0) := Kx.out.cell 6
  have c7 : w0.cell? ⟨x, 7, none⟩ = some (.slice none 0 0) := Kx.out.cell 7
  have c8 : w0.cell? ⟨x, 8, none⟩ = some (.slice none 0 0) := Kx.out.cell 8
  have c9 : w0.cell? ⟨x, 9, none⟩ = some (.slice none 0 0) := Kx.out.cell 9
  have c10 : w0.cell? ⟨x, 10, none⟩ = some (.slice none 0 0) := Kx.out.cell 10
  have c11 : w0.cell? ⟨x, 11, none⟩ = some (.int .i64 d0) := Kx.out.cell 11
  have c12 : w0.cell? ⟨x, 12, none⟩ = some (.int .i64 d1) := Kx.out.cell 12
  have c13 : w0.cell? ⟨x, 13, none⟩ = some (.int .i64 rc) := Kx.out.cell 13
  have c14 : w0.cell? ⟨x, 14, none⟩ = some (.int .i64 lg) := Kx.out.cell 14
  go_wp2_with fail
  refine HCK.out.mono ?_; rintro e w1 ⟨rfl, hB1⟩
  replace Kx := Lib.hid (Kx.out.below hB1 Kx.out.lt)
  have HB1 := Lib.hid (bNext HB0.out hB1)
  clear hB1 c0 c1 c2 c3 c4 c5 c6 c7 c8 c9 c10 c11 c12 c13 c14
  have c0 : w1.cell? ⟨x, 0, none⟩ = some (.int .i64 k) := Kx.out.cell 0
  have c1 : w1.cell? ⟨x, 1, none⟩ = some (.int .i64 f) := Kx.out.cell 1
  have c2 : w1.cell? ⟨x, 2, none⟩ = some (.int .i64 s) := Kx.out.cell 2
  have c3 : w1.cell? ⟨x, 3, none⟩ = some (.int .i64 p) := Kx.out.cell 3
  have c4 : w1.cell? ⟨x, 4, none⟩ = some (.int .i64 fl) := Kx.out.cell 4
  have c5 : w1.cell? ⟨x, 5, none⟩ = some (.string ⟨#[]⟩) := Kx.out.cell 5
  have c6 : w1.cell? ⟨x, 6, none⟩ = some (.slice none 0 0) := Kx.out.cell 6
  have c7 : w1.cell? ⟨x, 7, none⟩ = some (.slice none 0 0) := Kx.out.cell 7
  have c8 : w1.cell? ⟨x, 8, none⟩ = some (.slice none 0 0) := Kx.out.cell 8
  have c9 : w1.cell? ⟨x, 9, none⟩ = some (.slice none 0 0) := Kx.out.cell 9
  have c10 : w1.cell? ⟨x, 10, none⟩ = some (.slice none 0 0) := Kx.out.cell 10
  have c11 : w1.cell? ⟨x, 11, none⟩ = some (.int .i64 d0) := Kx.out.cell 11
  have c12 : w1.cell? ⟨x, 12, none⟩ = some (.int .i64 d1) := Kx.out.cell 12
  have c13 : w1.cell? ⟨x, 13, none⟩ = some (.int .i64 rc) := Kx.out.cell 13
  have c14 : w1.cell? ⟨x, 14, none⟩ = some (.int .i64 lg) := Kx.out.cell 14
  go_wp2_with fail
  refine (numbers_any k f s p fl d0 d1 rc lg _).mono ?_; rintro e w2 ⟨rfl, hB2⟩
  obtain ⟨y, hy⟩ := nm w2.heap.size
  obtain ⟨w3, hw3⟩ := nm (w2.alloc (.cells #[.int .i64 k, .int .i64 f, .int .i64 s, .int .i64 p, .int .i64 fl, .int .i64 d0, .int .i64 d1, .int .i64 rc, .int .i64 lg] 48))
  replace Kx : Hid (Blk w3 x #[.int .i64 k, .int .i64 f, .int .i64 s, .int .i64 p, .int .i64 fl, .string ⟨#[]⟩, .slice none 0 0, .slice none 0 0, .slice none 0 0, .slice none 0 0, .slice none 0 0, .int .i64 d0, .int .i64 d1, .int .i64 rc, .int .i64 lg] 35) := by show Blk _ _ _ _; rw [hw3.out]; exact (Kx.out.below hB2 Kx.out.lt).alloc _
  have Ky : Hid (Blk w3 y #[.int .i64 k, .int .i64 f, .int .i64 s, .int .i64 p, .int .i64 fl, .int .i64 d0, .int .i64 d1, .int .i64 rc, .int .i64 lg] 48) := by show Blk _ _ _ _; rw [hw3.out, hy.out]; exact Blk.new _ _ _
  have HB3 : Hid (Below w.heap.size w w3) := by show Below _ _ _; rw [hw3.out]; exact bNew (bNext HB1.out hB2) _
  clear hB2 c0 c1 c2 c3 c4 c5 c6 c7 c8 c9 c10 c11 c12 c13 c14
  go_upto_region 4 with fail
  rw [← hw3.out, ← hy.out]
  have c5 : w3.cell? ⟨x, 5, none⟩ = some (.string ⟨#[]⟩) := Kx.out.cell 5
  have c6 : w3.cell? ⟨x, 6, none⟩ = some (.slice none 0 0) := Kx.out.cell 6
  have c7 : w3.cell? ⟨x, 7, none⟩ = some (.slice none 0 0) := Kx.out.cell 7
  have c8 : w3.cell? ⟨x, 8, none⟩ = some (.slice none 0 0) := Kx.out.cell 8
  have c9 : w3.cell? ⟨x, 9, none⟩ = some (.slice none 0 0) := Kx.out.cell 9
  have c10 : w3.cell? ⟨x, 10, none⟩ = some (.slice none 0 0) := Kx.out.cell 10
  have hlx : x < w3.heap.size := Kx.out.lt
  have HKEEP : Hid (∀ wa : World, Below w3.drew.heap.size w3.drew wa → wa.cell? ⟨x, 5, none⟩ = some (.string ⟨#[]⟩) ∧ wa.cell? ⟨x, 6, none⟩ = some (.slice none 0 0) ∧ wa.cell? ⟨x, 7, none⟩ = some (.slice none 0 0) ∧ wa.cell? ⟨x, 8, none⟩ = some (.slice none 0 0) ∧ wa.cell? ⟨x, 9, none⟩ = some (.slice none 0 0) ∧ wa.cell? ⟨x, 10, none⟩ = some (.slice none 0 0)) := by
    show ∀ wa : World, _
    intro wa h
    exact ⟨(h.cell (p := ⟨x, 5, none⟩) hlx).trans c5, (h.cell (p := ⟨x, 6, none⟩) hlx).trans c6, (h.cell (p := ⟨x, 7, none⟩) hlx).trans c7, (h.cell (p := ⟨x, 8, none⟩) hlx).trans c8, (h.cell (p := ⟨x, 9, none⟩) hlx).trans c9, (h.cell (p := ⟨x, 10, none⟩) hlx).trans c10⟩
  have hsl : SlAt w3.drew (some ⟨y, 0, none⟩) (zs.map (Value.int .i64)) := by rw [hzs.out]; exact SlAt.ofBlk (w := w3.drew) Ky.out
  obtain ⟨a1, ha1⟩ := nm (ofL (numsL zs))
  obtain ⟨z1, hz1⟩ := nm (ofL [0])
  obtain ⟨z3, hz3⟩ := nm (ofL [0, 0, 0])
  have HN : Hid (Calls Tryz.prog 30 #[.slice (some ⟨y, 0, none⟩) 9 9] w3.drew fun e w' => e = .returned (.string a1) ∧ Below w3.drew.heap.size w3.drew w') := by
    show Calls _ _ _ _ _
    rw [ha1.out]
    exact nums_any (some ⟨y, 0, none⟩) 9 9 zs hzl.out (by decide) HZ.out w3.drew hsl
  have HT : Hid (∀ w, Calls Tryz.prog 31 #[.string ⟨#[]⟩] w fun e w' => e = .returned (.string z1) ∧ Below w.heap.size w w') := by
    intro w
    have := text_any ⟨#[]⟩ w (by decide)
    rw [show ofL (textL (bl ⟨#[]⟩)) = z1 from by rw [hz1.out]; unfold textL; rw [show (bl ⟨#[]⟩).length = 0 from rfl, num0]; rfl] at this
    exact this
  have HG : Hid (∀ w, Calls Tryz.prog 32 #[.agg #[.slice none 0 0, .slice none 0 0, .slice none 0 0]] w fun e w' => e = .returned (.string z3) ∧ Below w.heap.size w w') := by intro w; rw [hz3.out]; exact bagb0 w
  have HM : Hid (∀ w, Calls Tryz.prog 33 #[.slice none 0 0] w fun e w' => e = .returned (.string z1) ∧ Below w.heap.size w w') := by intro w; rw [hz1.out]; exact namesb0 w
  have HV : Hid (∀ w, Calls Tryz.prog 34 #[.slice none 0 0] w fun e w' => e = .returned (.string z1) ∧ Below w.heap.size w w') := by intro w; rw [hz1.out]; exact viewb0 w
  have l1 : a1.size ≤ 100 := by
    rw [ha1.out, ofL_size]
    unfold numsL
    rw [List.length_append, hzl.out]
    have g1 := Pl.num_length_le 9 (by decide)
    have g2 := intsL_le zs HZ.out
    rw [hzl.out] at g2
    omega
  have m1 : z1.size = 1 := by rw [hz1.out, ofL_size]; rfl
  have m3 : z3.size = 3 := by rw [hz3.out, ofL_size]; rfl
  have n2 : (a1 ++ z1).size = a1.size + 1 := by rw [ByteArray.size_append, m1]
  have n3 : (a1 ++ z1 ++ z3).size = a1.size + 4 := by rw [ByteArray.size_append, n2, m3]
  have n4 : (a1 ++ z1 ++ z3 ++ z1).size = a1.size + 5 := by rw [ByteArray.size_append, n3, m1]
  have n5 : (a1 ++ z1 ++ z3 ++ z1 ++ z1).size = a1.size + 6 := by rw [ByteArray.size_append, n4, m1]
  have k2 := fun w : World => run_string_add_sum (P := Tryz.prog) w a1 z1 (by omega)
  have k3 := fun w : World => run_string_add_sum (P := Tryz.prog) w (a1 ++ z1) z3 (by omega)
  have k4 := fun w : World => run_string_add_sum (P := Tryz.prog) w (a1 ++ z1 ++ z3) z1 (by omega)
  have k5 := fun w : World => run_string_add_sum (P := Tryz.prog) w (a1 ++ z1 ++ z3 ++ z1) z1 (by omega)
  have HF : Hid (a1 ++ z1 ++ z3 ++ z1 ++ z1 = ofL (wireL zs)) := by
    show _ = _
    rw [ha1.out, hz1.out, hz3.out, ofL_append, ofL_append, ofL_append, ofL_append]
    unfold wireL
    simp only [List.append_assoc]; rfl
  have HS5 : Hid ((a1 ++ z1 ++ z3 ++ z1 ++ z1).size ≤ 200) := by show _ ≤ _; omega
  clear n2 n3 n4 n5 m1 m3 l1 hsl
  go_region_held3 (fun w' => w'.cell? ⟨x, 5, none⟩ = some (.string ⟨#[]⟩) ∧ w'.cell? ⟨x, 6, none⟩ = some (.slice none 0 0) ∧ w'.cell? ⟨x, 7, none⟩ = some (.slice none 0 0) ∧ w'.cell? ⟨x, 8, none⟩ = some (.slice none 0 0) ∧ w'.cell? ⟨x, 9, none⟩ = some (.slice none 0 0) ∧ w'.cell? ⟨x, 10, none⟩ = some (.slice none 0 0))
    (first
      | exact HKEEP.out _ (bNext (bNext (bNext (bNext hb1 hb2) hb3) hb4) hb5)
      | exact HKEEP.out _ (bNext (bNext (bNext hb1 hb2) hb3) hb4)
      | exact HKEEP.out _ (bNext (bNext hb1 hb2) hb3)
      | exact HKEEP.out _ (bNext hb1 hb2)
      | exact HKEEP.out _ hb1
      | exact ⟨cell_dr c5, cell_dr c6, cell_dr c7, cell_dr c8, cell_dr c9, cell_dr c10⟩
      | exact ⟨c5, c6, c7, c8, c9, c10⟩)
    (first
      | (go_at_call 30; refine HN.out.mono ?_; rintro e v1 ⟨rfl, hb1⟩)
      | (go_at_call 31; with_reducible (refine (HT.out _).mono ?_); rintro e v2 ⟨rfl, hb2⟩)
      | (go_at_call 32; with_reducible (refine (HG.out _).mono ?_); rintro e v3 ⟨rfl, hb3⟩)
      | (go_at_call 33; with_reducible (refine (HM.out _).mono ?_); rintro e v4 ⟨rfl, hb4⟩)
      | (go_at_call 34; with_reducible (refine (HV.out _).mono ?_); rintro e v5 ⟨rfl, hb5⟩))
  have HBF := Lib.hid (bNext (bDrew HB3.out) (bNext (bNext (bNext (bNext hb1 hb2) hb3) hb4) hb5))
  obtain ⟨R, hR⟩ := nm (a1 ++ z1 ++ z3 ++ z1 ++ z1)
  rw [← hR.out] at HF HS5
  rw [← hR.out]
  have hRs : R.size ≤ 200 := HS5.out
  clear hb1 hb2 hb3 hb4 hb5 k2 k3 k4 k5 c5 c6 c7 c8 c9 c10
  go_wp2_with fail
  refine bodyPost_ret (v := .tuple #[.string R, .int .i64 0]) (by simp [results, Tryz.results9, go_sem]) rfl ?_
  exact ⟨by rw [← HF.out], HBF.out⟩
end Go.Proofs.YtfpjdmplepepjaaGreat

/-! WireRead: Wire's Read, of what has no lists. -/
namespace Go.Proofs.YtfpjdmplepepjaaGreat
open Go.RowKit

theorem infoWire : (Tryz.prog.info? 35).map (·.size) = some 15 := by kernel_rfl

set_option maxRecDepth 100000 in
set_option maxHeartbeats 16000000 in
theorem read_ok (k f s p fl d0 d1 rc lg : Int) (h : 1 ≤ k ∧ k ≤ 8 ∧ 1 ≤ f ∧ f ≤ 1099511627776 ∧ 0 ≤ s ∧ s ≤ 1099511627776 ∧ 0 ≤ p ∧ p ≤ 15 ∧ 0 ≤ fl ∧ fl ≤ 1 ∧ 0 ≤ rc ∧ rc ≤ 1099511627776 ∧ 0 ≤ lg ∧ lg ≤ 1073741824) (hd : d0 = 0 ∧ d1 = 0 ∨ (1 ≤ d0 ∧ d0 ≤ 1099511627776) ∧ 1 ≤ d1 ∧ d1 ≤ 1099511627776) (w : World) :
    Calls Tryz.prog 6 #[.string (ofL (wireL [k, f, s, p, fl, d0, d1, rc, lg]))] w fun e w' => e = .returned (.tuple #[.agg #[.int .i64 k, .int .i64 f, .int .i64 s, .int .i64 p, .int .i64 fl, .string ⟨#[]⟩, .slice none 0 0, .slice none 0 0, .slice none 0 0, .slice none 0 0, .slice none 0 0, .int .i64 d0, .int .i64 d1, .int .i64 rc, .int .i64 lg], .int .i64 0]) ∧ Below w.heap.size w w' := by
  obtain ⟨w0, hw0⟩ := nm (w.alloc (.cells #[.int .i64 0, .int .i64 0, .int .i64 0, .int .i64 0, .int .i64 0, .string ⟨#[]⟩, .slice none 0 0, .slice none 0 0, .slice none 0 0, .slice none 0 0, .slice none 0 0, .int .i64 0, .int .i64 0, .int .i64 0, .int .i64 0] 35))
  obtain ⟨x, hx⟩ := nm w.heap.size
  have Kx : Hid (Blk w0 x #[.int .i64 0, .int .i64 0, .int .i64 0, .int .i64 0, .int .i64 0, .string ⟨#[]⟩, .slice none 0 0, .slice none 0 0, .slice none 0 0, .slice none 0 0, .slice none 0 0, .int .i64 0, .int .i64 0, .int .i64 0, .int .i64 0] 35) := by show Blk _ _ _ _; rw [hw0.out, hx.out]; exact Blk.new _ _ _
  have HB : Hid (Below w.heap.size w w0) := by show Below _ _ _; rw [hw0.out]; exact bOld _
  have hxw : Hid (w.heap.size ≤ x) := by show _ ≤ _; rw [hx.out]; exact Nat.le_refl _
  have HCK : Hid (∀ w, Calls Tryz.prog 10 #[.agg #[.int .i64 k, .int .i64 f, .int .i64 s, .int .i64 p, .int .i64 fl, .string ⟨#[]⟩, .slice none 0 0, .slice none 0 0, .slice none 0 0, .slice none 0 0, .slice none 0 0, .int .i64 d0, .int .i64 d1, .int .i64 rc, .int .i64 lg]] w fun e w' => e = .returned (.int .i64 0) ∧ Below w.heap.size w w') := fun w => check_ok k f s p fl d0 d1 rc lg h hd w
  have hz : ∀ z ∈ ([k, f, s, p, fl, d0, d1, rc, lg] : List Int), 0 ≤ z ∧ z ≤ 1099511627776 ∧ z < 18446744073709551616 := by
    intro z hz
    simp only [List.mem_cons, List.not_mem_nil, or_false] at hz
    rcases hz with rfl | rfl | rfl | rfl | rfl | rfl | rfl | rfl | rfl <;> omega
  obtain ⟨zs, hzs⟩ := nm ([k, f, s, p, fl, d0, d1, rc, lg] : List Int)
  have hzl : Hid (zs.length = 9) := by show _ = _; rw [hzs.out]; rfl
  rw [← hzs.out] at hz ⊢
  have hnb := Rd.nums_back 1099511627776 9 zs [0, 0, 0, 0, 0, 0] (by rw [hzl.out]; decide) (by rw [hzl.out]; decide) hz
  have hsz : (ofL (wireL zs)).size ≤ 200 := by
    rw [ofL_size]
    unfold wireL numsL
    rw [List.length_append, List.length_append, hzl.out]
    have g1 := Pl.num_length_le 9 (by decide)
    have g2 := intsL_le zs (fun z h => by have := hz z h; omega)
    rw [hzl.out] at g2
    simp only [List.length_cons, List.length_nil]
    omega
  rw [show numsL zs ++ ([0, 0, 0, 0, 0, 0] : List UInt8) = wireL zs from rfl] at hnb
  obtain ⟨S, hS⟩ := nm (ofL (wireL zs))
  rw [← hS.out] at hnb hsz ⊢
  obtain ⟨b, hb⟩ := nm w0.heap.size
  have hxb : x < b := by rw [hb.out]; exact Kx.out.lt
  have hrd := read_any S w0
  rw [← hb.out] at hrd
  have HRD := Lib.hid hrd
  have HNB := Lib.hid hnb
  clear h hd hz hrd hnb
  go_enter Tryz.func6, Tryz.ntmps6
  go_upto_region 1 with fail
  rw [← hw0.out, ← hx.out]
  go_wp2_with fail
  refine HRD.out.mono ?_; rintro e w1 ⟨rfl, hw1⟩
  have HR : Hid (IsRd w1 b ⟨S, false⟩) := by show IsRd _ _ _; rw [hw1, hb.out]; exact Blk.new _ _ _
  replace Kx : Hid (Blk w1 x #[.int .i64 0, .int .i64 0, .int .i64 0, .int .i64 0, .int .i64 0, .string ⟨#[]⟩, .slice none 0 0, .slice none 0 0, .slice none 0 0, .slice none 0 0, .slice none 0 0, .int .i64 0, .int .i64 0, .int .i64 0, .int .i64 0] 35) := by show Blk _ _ _ _; rw [hw1]; exact Kx.out.alloc _
  replace HB : Hid (Below w.heap.size w w1) := by show Below _ _ _; rw [hw1]; exact bNew HB.out _
  have hwb : Hid (w.heap.size ≤ b) := by show _ ≤ _; rw [← hx.out]; omega
  have hnm := rnums_any b ⟨S, false⟩ 9 1099511627776 w1 HR.out (by simp only; omega) (by decide) (by decide)
  rw [HNB.out, hzl.out] at hnm
  have HNM := Lib.hid hnm
  clear hw1 hnm
  go_wp2_with fail
  refine HNM.out.mono ?_; rintro e w2 ⟨ao, cap, rfl, hcap, hsl, h2, hk⟩
  replace HR := Lib.hid h2
  replace Kx := Lib.hid (hk.blk Kx.out (by omega))
  replace HB := Lib.hid (HB.out.trans (hk.below hwb.out HB.out.size))
  obtain ⟨g, off, rfl, hg, hat⟩ := hsl 0 (by rw [List.length_map, hzl.out]; decide)
  rw [hzs.out] at hat
  have c0 : w2.cell? ⟨g, off, none⟩ = some (.int .i64 k) := hat 0 (by simp)
  have c1 : w2.cell? ⟨g, off + 1, none⟩ = some (.int .i64 f) := hat 1 (by simp)
  have c2 : w2.cell? ⟨g, off + 2, none⟩ = some (.int .i64 s) := hat 2 (by simp)
  have c3 : w2.cell? ⟨g, off + 3, none⟩ = some (.int .i64 p) := hat 3 (by simp)
  have c4 : w2.cell? ⟨g, off + 4, none⟩ = some (.int .i64 fl) := hat 4 (by simp)
  have c5 : w2.cell? ⟨g, off + 5, none⟩ = some (.int .i64 d0) := hat 5 (by simp)
  have c6 : w2.cell? ⟨g, off + 6, none⟩ = some (.int .i64 d1) := hat 6 (by simp)
  have c7 : w2.cell? ⟨g, off + 7, none⟩ = some (.int .i64 rc) := hat 7 (by simp)
  have c8 : w2.cell? ⟨g, off + 8, none⟩ = some (.int .i64 lg) := hat 8 (by simp)
  obtain ⟨v, hv⟩ := nm (w2.heap.size + 1)
  obtain ⟨w3, hw3⟩ := nm ((w2.alloc (.cells #[.int .i64 k, .int .i64 f, .int .i64 s, .int .i64 p, .int .i64 fl, .int .i64 d0, .int .i64 d1, .int .i64 rc, .int .i64 lg] 48)).alloc (.cells #[.int .i64 k, .int .i64 f, .int .i64 s, .int .i64 p, .int .i64 fl, .string ⟨#[]⟩, .slice none 0 0, .slice none 0 0, .slice none 0 0, .slice none 0 0, .slice none 0 0, .int .i64 d0, .int .i64 d1, .int .i64 rc, .int .i64 lg] 35))
  have hbv : b < v := by rw [hv.out]; have := h2.lt; omega
  have hxv : x < v := by rw [hv.out]; have := Kx.out.lt; omega
  have Kv : Hid (Blk w3 v #[.int .i64 k, .int .i64 f, .int .i64 s, .int .i64 p, .int .i64 fl, .string ⟨#[]⟩, .slice none 0 0, .slice none 0 0, .slice none 0 0, .slice none 0 0, .slice none 0 0, .int .i64 d0, .int .i64 d1, .int .i64 rc, .int .i64 lg] 35) := by show Blk _ _ _ _; rw [hw3.out]; exact blk_at (by rw [hv.out]; simp)
  replace HR : Hid (IsRd w3 b ⟨ofL [0, 0, 0, 0, 0, 0], false⟩) := by show IsRd _ _ _; rw [hw3.out]; exact Blk.alloc (Blk.alloc h2 _) _
  replace Kx : Hid (Blk w3 x #[.int .i64 0, .int .i64 0, .int .i64 0, .int .i64 0, .int .i64 0, .string ⟨#[]⟩, .slice none 0 0, .slice none 0 0, .slice none 0 0, .slice none 0 0, .slice none 0 0, .int .i64 0, .int .i64 0, .int .i64 0, .int .i64 0] 35) := by show Blk _ _ _ _; rw [hw3.out]; exact (Kx.out.alloc _).alloc _
  replace HB : Hid (Below w.heap.size w w3) := by show Below _ _ _; rw [hw3.out]; exact bNew (bNew HB.out _) _
  have hwv : Hid (w.heap.size ≤ v) := by show _ ≤ _; have := hxw.out; omega
  clear hsl h2 hk hat
  have harr := fun w : World => run_arrayAt (P := Tryz.prog) w 48 3 9 (some ⟨g, off, none⟩) 9 cap Tryz.underlying48 (Nat.le_refl _)
  go_upto_region 9 with fail
  rw [← hw3.out, ← hv.out]
  have htx := rtext_any b ⟨ofL [0, 0, 0, 0, 0, 0], false⟩ 8000 w3 HR.out (by rw [show (ofL [0, 0, 0, 0, 0, 0]).size = 6 from rfl]; decide) (by decide)
  rw [show (Rd.mk (ofL [0, 0, 0, 0, 0, 0]) false).text 8000 = (⟨ofL [0, 0, 0, 0, 0], false⟩, ⟨#[]⟩) from by
    have := Rd.text_back [] [0, 0, 0, 0, 0] 8000 (by decide) (by decide)
    rw [show textL [] = [0] from by unfold textL; rw [List.length_nil, num0]; rfl] at this
    exact this] at htx
  have HTX := Lib.hid htx
  clear htx c0 c1 c2 c3 c4 c5 c6 c7 c8
  go_wp2_with fail
  refine (HTX.out).mono ?_; rintro e w4 ⟨rfl, hr, hk⟩
  replace HR := Lib.hid hr
  replace Kx := Lib.hid (hk.blk Kx.out (by omega))
  replace Kv := Lib.hid (hk.blk Kv.out (by omega))
  replace HB := Lib.hid (HB.out.trans (hk.below hwb.out HB.out.size))
  clear hr hk
  have c5 : w4.cell? ⟨v, 5, none⟩ = some (.string ⟨#[]⟩) := Kv.out.cell 5
  have f5 : w4.frozen? ⟨v, 5, none⟩ = false := Kv.out.free 5
  obtain ⟨w5, hw5⟩ := nm (w4.setCell ⟨v, 5, none⟩ (.string ⟨#[]⟩))
  replace Kx : Hid (Blk w5 x #[.int .i64 0, .int .i64 0, .int .i64 0, .int .i64 0, .int .i64 0, .string ⟨#[]⟩, .slice none 0 0, .slice none 0 0, .slice none 0 0, .slice none 0 0, .slice none 0 0, .int .i64 0, .int .i64 0, .int .i64 0, .int .i64 0] 35) := by show Blk _ _ _ _; rw [hw5.out]; exact (Blk.setOther Kx.out (by simp only; omega) _)
  replace HR : Hid (IsRd w5 b ⟨ofL [0, 0, 0, 0, 0], false⟩) := by show IsRd _ _ _; rw [hw5.out]; exact (Blk.setOther HR.out (by simp only; omega) _)
  replace Kv : Hid (Blk w5 v #[.int .i64 k, .int .i64 f, .int .i64 s, .int .i64 p, .int .i64 fl, .string ⟨#[]⟩, .slice none 0 0, .slice none 0 0, .slice none 0 0, .slice none 0 0, .slice none 0 0, .int .i64 d0, .int .i64 d1, .int .i64 rc, .int .i64 lg] 35) := by show Blk _ _ _ _; rw [hw5.out]; exact (Blk.set Kv.out 5 _)
  replace HB : Hid (Below w.heap.size w w5) := by show Below _ _ _; rw [hw5.out]; exact (Below.setCell HB.out (p := ⟨v, 5, none⟩) hwv.out _)
  go_upto_region 10 with fail
  rw [← hw5.out]
  clear c5 f5
  go_wp2_with fail
  refine (rbag0 b [0, 0] _ HR.out (by decide)).mono ?_; rintro e w6 ⟨rfl, hr, hk⟩
  replace HR := Lib.hid hr
  replace Kx := Lib.hid (hk.blk Kx.out (by omega))
  replace Kv := Lib.hid (hk.blk Kv.out (by omega))
  replace HB := Lib.hid (HB.out.trans (hk.below hwb.out HB.out.size))
  clear hr hk
  have c6 : w6.cell? ⟨v, 6, none⟩ = some (.slice none 0 0) := Kv.out.cell 6
  have f6 : w6.frozen? ⟨v, 6, none⟩ = false := Kv.out.free 6
  have c7 : w6.cell? ⟨v, 7, none⟩ = some (.slice none 0 0) := Kv.out.cell 7
  have f7 : w6.frozen? ⟨v, 7, none⟩ = false := Kv.out.free 7
  have c8 : w6.cell? ⟨v, 8, none⟩ = some (.slice none 0 0) := Kv.out.cell 8
  have f8 : w6.frozen? ⟨v, 8, none⟩ = false := Kv.out.free 8
  obtain ⟨w7, hw7⟩ := nm (((w6.setCell ⟨v, 6, none⟩ (.slice none 0 0)).setCell ⟨v, 7, none⟩ (.slice none 0 0)).setCell ⟨v, 8, none⟩ (.slice none 0 0))
  replace Kx : Hid (Blk w7 x #[.int .i64 0, .int .i64 0, .int .i64 0, .int .i64 0, .int .i64 0, .string ⟨#[]⟩, .slice none 0 0, .slice none 0 0, .slice none 0 0, .slice none 0 0, .slice none 0 0, .int .i64 0, .int .i64 0, .int .i64 0, .int .i64 0] 35) := by show Blk _ _ _ _; rw [hw7.out]; exact (Blk.setOther (Blk.setOther (Blk.setOther Kx.out (by simp only; omega) _) (by simp only; omega) _) (by simp only; omega) _)
  replace HR : Hid (IsRd w7 b ⟨ofL [0, 0], false⟩) := by show IsRd _ _ _; rw [hw7.out]; exact (Blk.setOther (Blk.setOther (Blk.setOther HR.out (by simp only; omega) _) (by simp only; omega) _) (by simp only; omega) _)
  replace Kv : Hid (Blk w7 v #[.int .i64 k, .int .i64 f, .int .i64 s, .int .i64 p, .int .i64 fl, .string ⟨#[]⟩, .slice none 0 0, .slice none 0 0, .slice none 0 0, .slice none 0 0, .slice none 0 0, .int .i64 d0, .int .i64 d1, .int .i64 rc, .int .i64 lg] 35) := by show Blk _ _ _ _; rw [hw7.out]; exact (Blk.set (Blk.set (Blk.set Kv.out 6 _) 7 _) 8 _)
  replace HB : Hid (Below w.heap.size w w7) := by show Below _ _ _; rw [hw7.out]; exact (Below.setCell (Below.setCell (Below.setCell HB.out (p := ⟨v, 6, none⟩) hwv.out _) (p := ⟨v, 7, none⟩) hwv.out _) (p := ⟨v, 8, none⟩) hwv.out _)
  go_upto_region 11 with fail
  rw [← hw7.out]
  clear c6 f6 c7 f7 c8 f8
  go_wp2_with fail
  refine (rnames0 b [0] _ HR.out (by decide)).mono ?_; rintro e w8 ⟨rfl, hr, hk⟩
  replace HR := Lib.hid hr
  replace Kx := Lib.hid (hk.blk Kx.out (by omega))
  replace Kv := Lib.hid (hk.blk Kv.out (by omega))
  replace HB := Lib.hid (HB.out.trans (hk.below hwb.out HB.out.size))
  clear hr hk
  have c9 : w8.cell? ⟨v, 9, none⟩ = some (.slice none 0 0) := Kv.out.cell 9
  have f9 : w8.frozen? ⟨v, 9, none⟩ = false := Kv.out.free 9
  obtain ⟨w9, hw9⟩ := nm (w8.setCell ⟨v, 9, none⟩ (.slice none 0 0))
  replace Kx : Hid (Blk w9 x #[.int .i64 0, .int .i64 0, .int .i64 0, .int .i64 0, .int .i64 0, .string ⟨#[]⟩, .slice none 0 0, .slice none 0 0, .slice none 0 0, .slice none 0 0, .slice none 0 0, .int .i64 0, .int .i64 0, .int .i64 0, .int .i64 0] 35) := by show Blk _ _ _ _; rw [hw9.out]; exact (Blk.setOther Kx.out (by simp only; omega) _)
  replace HR : Hid (IsRd w9 b ⟨ofL [0], false⟩) := by show IsRd _ _ _; rw [hw9.out]; exact (Blk.setOther HR.out (by simp only; omega) _)
  replace Kv : Hid (Blk w9 v #[.int .i64 k, .int .i64 f, .int .i64 s, .int .i64 p, .int .i64 fl, .string ⟨#[]⟩, .slice none 0 0, .slice none 0 0, .slice none 0 0, .slice none 0 0, .slice none 0 0, .int .i64 d0, .int .i64 d1, .int .i64 rc, .int .i64 lg] 35) := by show Blk _ _ _ _; rw [hw9.out]; exact (Blk.set Kv.out 9 _)
  replace HB : Hid (Below w.heap.size w w9) := by show Below _ _ _; rw [hw9.out]; exact (Below.setCell HB.out (p := ⟨v, 9, none⟩) hwv.out _)
  go_upto_region 12 with fail
  rw [← hw9.out]
  clear c9 f9
  go_wp2_with fail
  refine (rview0 b [] _ HR.out (by decide)).mono ?_; rintro e wa ⟨rfl, hr, hk⟩
  replace HR := Lib.hid hr
  replace Kx := Lib.hid (hk.blk Kx.out (by omega))
  replace Kv := Lib.hid (hk.blk Kv.out (by omega))
  replace HB := Lib.hid (HB.out.trans (hk.below hwb.out HB.out.size))
  clear hr hk
  have c10 : wa.cell? ⟨v, 10, none⟩ = some (.slice none 0 0) := Kv.out.cell 10
  have f10 : wa.frozen? ⟨v, 10, none⟩ = false := Kv.out.free 10
  obtain ⟨wb, hwb⟩ := nm (wa.setCell ⟨v, 10, none⟩ (.slice none 0 0))
  replace Kx : Hid (Blk wb x #[.int .i64 0, .int .i64 0, .int .i64 0, .int .i64 0, .int .i64 0, .string ⟨#[]⟩, .slice none 0 0, .slice none 0 0, .slice none 0 0, .slice none 0 0, .slice none 0 0, .int .i64 0, .int .i64 0, .int .i64 0, .int .i64 0] 35) := by show Blk _ _ _ _; rw [hwb.out]; exact (Blk.setOther Kx.out (by simp only; omega) _)
  replace HR : Hid (IsRd wb b ⟨ofL [], false⟩) := by show IsRd _ _ _; rw [hwb.out]; exact (Blk.setOther HR.out (by simp only; omega) _)
  replace Kv : Hid (Blk wb v #[.int .i64 k, .int .i64 f, .int .i64 s, .int .i64 p, .int .i64 fl, .string ⟨#[]⟩, .slice none 0 0, .slice none 0 0, .slice none 0 0, .slice none 0 0, .slice none 0 0, .int .i64 d0, .int .i64 d1, .int .i64 rc, .int .i64 lg] 35) := by show Blk _ _ _ _; rw [hwb.out]; exact (Blk.set Kv.out 10 _)
  replace HB : Hid (Below w.heap.size w wb) := by show Below _ _ _; rw [hwb.out]; exact (Below.setCell HB.out (p := ⟨v, 10, none⟩) hwv.out _)
  go_upto_region 13 with fail
  rw [← hwb.out]
  clear c10 f10
  have c0 : wb.cell? ⟨v, 0, none⟩ = some (.int .i64 k) := Kv.out.cell 0
  have c1 : wb.cell? ⟨v, 1, none⟩ = some (.int .i64 f) := Kv.out.cell 1
  have c2 : wb.cell? ⟨v, 2, none⟩ = some (.int .i64 s) := Kv.out.cell 2
  have c3 : wb.cell? ⟨v, 3, none⟩ = some (.int .i64 p) := Kv.out.cell 3
  have c4 : wb.cell? ⟨v, 4, none⟩ = some (.int .i64 fl) := Kv.out.cell 4
  have c5 : wb.cell? ⟨v, 5, none⟩ = some (.string ⟨#[]⟩) := Kv.out.cell 5
  have c6 : wb.cell? ⟨v, 6, none⟩ = some (.slice none 0 0) := Kv.out.cell 6
  have c7 : wb.cell? ⟨v, 7, none⟩ = some (.slice none 0 0) := Kv.out.cell 7
  have c8 : wb.cell? ⟨v, 8, none⟩ = some (.slice none 0 0) := Kv.out.cell 8
  have c9 : wb.cell? ⟨v, 9, none⟩ = some (.slice none 0 0) := Kv.out.cell 9
  have c10 : wb.cell? ⟨v, 10, none⟩ = some (.slice none 0 0) := Kv.out.cell 10
  have c11 : wb.cell? ⟨v, 11, none⟩ = some (.int .i64 d0) := Kv.out.cell 11
  have c12 : wb.cell? ⟨v, 12, none⟩ = some (.int .i64 d1) := Kv.out.cell 12
  have c13 : wb.cell? ⟨v, 13, none⟩ = some (.int .i64 rc) := Kv.out.cell 13
  have c14 : wb.cell? ⟨v, 14, none⟩ = some (.int .i64 lg) := Kv.out.cell 14
  have hfin : (Rd.mk (ofL []) false).fin = 0 := rfl
  go_wp2_with fail
  refine (rend_any b ⟨ofL [], false⟩ wb HR.out).mono ?_; rintro e wc ⟨rfl, rfl⟩
  rw [hfin]
  go_wp2_with fail
  refine (HCK.out _).mono ?_; rintro e wd ⟨rfl, hBd⟩
  replace Kx := Lib.hid (Kx.out.below hBd Kx.out.lt)
  replace Kv := Lib.hid (Kv.out.below hBd Kv.out.lt)
  replace HB := Lib.hid (bNext HB.out hBd)
  clear hBd c0 c1 c2 c3 c4 c5 c6 c7 c8 c9 c10 c11 c12 c13 c14
  have c0 : wd.cell? ⟨v, 0, none⟩ = some (.int .i64 k) := Kv.out.cell 0
  have c1 : wd.cell? ⟨v, 1, none⟩ = some (.int .i64 f) := Kv.out.cell 1
  have c2 : wd.cell? ⟨v, 2, none⟩ = some (.int .i64 s) := Kv.out.cell 2
  have c3 : wd.cell? ⟨v, 3, none⟩ = some (.int .i64 p) := Kv.out.cell 3
  have c4 : wd.cell? ⟨v, 4, none⟩ = some (.int .i64 fl) := Kv.out.cell 4
  have c5 : wd.cell? ⟨v, 5, none⟩ = some (.string ⟨#[]⟩) := Kv.out.cell 5
  have c6 : wd.cell? ⟨v, 6, none⟩ = some (.slice none 0 0) := Kv.out.cell 6
  have c7 : wd.cell? ⟨v, 7, none⟩ = some (.slice none 0 0) := Kv.out.cell 7
  have c8 : wd.cell? ⟨v, 8, none⟩ = some (.slice none 0 0) := Kv.out.cell 8
  have c9 : wd.cell? ⟨v, 9, none⟩ = some (.slice none 0 0) := Kv.out.cell 9
  have c10 : wd.cell? ⟨v, 10, none⟩ = some (.slice none 0 0) := Kv.out.cell 10
  have c11 : wd.cell? ⟨v, 11, none⟩ = some (.int .i64 d0) := Kv.out.cell 11
  have c12 : wd.cell? ⟨v, 12, none⟩ = some (.int .i64 d1) := Kv.out.cell 12
  have c13 : wd.cell? ⟨v, 13, none⟩ = some (.int .i64 rc) := Kv.out.cell 13
  have c14 : wd.cell? ⟨v, 14, none⟩ = some (.int .i64 lg) := Kv.out.cell 14
  have hone : (#[.int .i64 k, .int .i64 f, .int .i64 s, .int .i64 p, .int .i64 fl, .string ⟨#[]⟩, .slice none 0 0, .slice none 0 0, .slice none 0 0, .slice none 0 0, .slice none 0 0, .int .i64 d0, .int .i64 d1, .int .i64 rc, .int .i64 lg] : Array Value).all (·.oneCell') = true := by simp [Value.oneCell']
  go_wp2_with (refine wpList_store_row rfl 35 _ _ rfl x #[.int .i64 k, .int .i64 f, .int .i64 s, .int .i64 p, .int .i64 fl, .string ⟨#[]⟩, .slice none 0 0, .slice none 0 0, .slice none 0 0, .slice none 0 0, .slice none 0 0, .int .i64 d0, .int .i64 d1, .int .i64 rc, .int .i64 lg] rfl rfl 35 #[.int .i64 0, .int .i64 0, .int .i64 0, .int .i64 0, .int .i64 0, .string ⟨#[]⟩, .slice none 0 0, .slice none 0 0, .slice none 0 0, .slice none 0 0, .slice none 0 0, .int .i64 0, .int .i64 0, .int .i64 0, .int .i64 0] Kx.out infoWire rfl hone ?_)
  obtain ⟨wz, hwz⟩ := nm (wd.setRow x #[.int .i64 k, .int .i64 f, .int .i64 s, .int .i64 p, .int .i64 fl, .string ⟨#[]⟩, .slice none 0 0, .slice none 0 0, .slice none 0 0, .slice none 0 0, .slice none 0 0, .int .i64 d0, .int .i64 d1, .int .i64 rc, .int .i64 lg])
  rw [← hwz.out]
  have Kz : Blk wz x #[.int .i64 k, .int .i64 f, .int .i64 s, .int .i64 p, .int .i64 fl, .string ⟨#[]⟩, .slice none 0 0, .slice none 0 0, .slice none 0 0, .slice none 0 0, .slice none 0 0, .int .i64 d0, .int .i64 d1, .int .i64 rc, .int .i64 lg] 35 := by rw [hwz.out]; exact setRow_heap wd x _ _ _ _ Kx.out
  have HBz : Below w.heap.size w wz := by rw [hwz.out]; exact below_setRow HB.out hxw.out _
  have r0 : wz.cell? ⟨x, 0, none⟩ = some (.int .i64 k) := Kz.cell 0
  have r1 : wz.cell? ⟨x, 1, none⟩ = some (.int .i64 f) := Kz.cell 1
  have r2 : wz.cell? ⟨x, 2, none⟩ = some (.int .i64 s) := Kz.cell 2
  have r3 : wz.cell? ⟨x, 3, none⟩ = some (.int .i64 p) := Kz.cell 3
  have r4 : wz.cell? ⟨x, 4, none⟩ = some (.int .i64 fl) := Kz.cell 4
  have r5 : wz.cell? ⟨x, 5, none⟩ = some (.string ⟨#[]⟩) := Kz.cell 5
  have r6 : wz.cell? ⟨x, 6, none⟩ = some (.slice none 0 0) := Kz.cell 6
  have r7 : wz.cell? ⟨x, 7, none⟩ = some (.slice none 0 0) := Kz.cell 7
  have r8 : wz.cell? ⟨x, 8, none⟩ = some (.slice none 0 0) := Kz.cell 8
  have r9 : wz.cell? ⟨x, 9, none⟩ = some (.slice none 0 0) := Kz.cell 9
  have r10 : wz.cell? ⟨x, 10, none⟩ = some (.slice none 0 0) := Kz.cell 10
  have r11 : wz.cell? ⟨x, 11, none⟩ = some (.int .i64 d0) := Kz.cell 11
  have r12 : wz.cell? ⟨x, 12, none⟩ = some (.int .i64 d1) := Kz.cell 12
  have r13 : wz.cell? ⟨x, 13, none⟩ = some (.int .i64 rc) := Kz.cell 13
  have r14 : wz.cell? ⟨x, 14, none⟩ = some (.int .i64 lg) := Kz.cell 14
  refine bodyPost_ret (v := .tuple #[.agg #[.int .i64 k, .int .i64 f, .int .i64 s, .int .i64 p, .int .i64 fl, .string ⟨#[]⟩, .slice none 0 0, .slice none 0 0, .slice none 0 0, .slice none 0 0, .slice none 0 0, .int .i64 d0, .int .i64 d1, .int .i64 rc, .int .i64 lg], .int .i64 0]) (by simp [results, Tryz.results6, go_sem, r0, r1, r2, r3, r4, r5, r6, r7, r8, r9, r10, r11, r12, r13, r14]) rfl ?_
  exact ⟨rfl, HBz⟩
end Go.Proofs.YtfpjdmplepepjaaGreat

/-! WSmall: A text of at most so many bytes; the cells of messages and tags. -/
namespace Go.Proofs.YtfpjdmplepepjaaGreat
open Go.RowKit

set_option maxRecDepth 100000 in
set_option maxHeartbeats 400000 in
theorem short_any (s : ByteArray) (n : Nat) (w : World) :
    Calls Tryz.prog 5 #[.string s, .int .i64 n] w fun e w' => e = .returned (.string (ofL ((bl s).take n))) ∧ w = w' := by
  by_cases h : n < s.size
  · have e : s.extract 0 n = ofL ((bl s).take n) := bl_inj (by rw [bl_extract, bl_ofL]; simp)
    go_enter Tryz.func5, Tryz.ntmps5
    go_wp2_with fail
    go_ret
    exact ⟨rfl, rfl⟩
  · have e : s = ofL ((bl s).take n) := bl_inj (by rw [bl_ofL, List.take_of_length_le (by rw [bl_length]; omega)])
    have E : Hid (s = ofL ((bl s).take n)) := e
    clear e
    go_enter Tryz.func5, Tryz.ntmps5
    go_wp2_with fail
    go_ret
    exact ⟨congrArg (fun x => Ending.returned (Value.string x)) E.out, rfl⟩

set_option maxRecDepth 100000 in
set_option maxHeartbeats 400000 in
theorem short_is (s : ByteArray) (Q : ByteArray) (hQ : Hid (Q = ofL ((bl s).take 60))) (w : World) :
    Calls Tryz.prog 5 #[.string s, .int .i64 60] w fun e w' => e = .returned (.string Q) ∧ w = w' := by rw [hQ.out]; exact short_any s 60 w
theorem take60 (s : ByteArray) : (ofL ((bl s).take 60)).size ≤ 60 := by rw [ofL_size, List.length_take]; omega
theorem encMsg : EncOk eMsg 5 := ⟨by decide, fun _ => rfl, fun x u hu => by simp [eMsg] at hu; rcases hu with rfl | rfl | rfl | rfl | rfl <;> rfl⟩
theorem encTag : EncOk eTag 2 := ⟨by decide, fun _ => rfl, fun x u hu => by simp [eTag] at hu; rcases hu with rfl | rfl <;> rfl⟩
theorem infoMsg : (Tryz.prog.info? 84).map (fun i => (i.zero, i.size, i.bytes)) = some (some (.agg #[.int .i64 0, .int .i64 0, .string .empty, .string .empty, .int .i64 0]), 5, 56) := by kernel_rfl
theorem infoTag : (Tryz.prog.info? 75).map (fun i => (i.zero, i.size, i.bytes)) = some (some (.agg #[.string .empty, .int .i64 0]), 2, 24) := by kernel_rfl
theorem OwnE.setAt {α : Type} {enc : α → List Value} {k : Nat} {w : World} {base : Nat} {t : TypeId} {v : Value} {xs : List α} (h : OwnE enc k w base t v xs) {y i : Nat} {u : Value} (hy : ∀ g, v.ownBlock = some g → g < y) : OwnE enc k (w.setCell ⟨y, i, none⟩ u) base t v xs :=
  h.keptBy (row := some y) ⟨rfl, rfl, rfl, by simp [World.setCell], fun j _ hn => Below.heap_setCell w ⟨y, i, none⟩ u j (fun e => hn (by rw [show j = y from e]))⟩ (.inr fun e => absurd (hy y e) (Nat.lt_irrefl _))
end Go.Proofs.YtfpjdmplepepjaaGreat

/-! WReadA: How much a reader leaves; own rows that stay. -/
namespace Go.Proofs.YtfpjdmplepepjaaGreat
open Go.RowKit

theorem Rd.int_sz (r : Rd) (m : Int) : (r.int m).1.left.size ≤ r.left.size := (r.int_lt m).2.1
theorem Rd.text_sz (r : Rd) (m : Int) : (r.text m).1.left.size ≤ r.left.size := by
  have h := r.int_sz m
  unfold Rd.text
  split
  · exact h
  · show ((r.int m).1.left.extract (r.int m).2 (r.int m).1.left.size).size ≤ _
    rw [← bl_length, bl_extract, List.length_take, List.length_drop, bl_length]
    omega
end Go.Proofs.YtfpjdmplepepjaaGreat

/-! WReadBag: Bags are read: the program's. -/
namespace Go.Proofs.YtfpjdmplepepjaaGreat
open Go.RowKit

theorem Tri.setNew {x y z : Nat} {a b : World} (h : Tri x y z a b) {p : Addr} (hp : a.heap.size ≤ p.block) (v : Value) : Tri x y z a (b.setCell p v) :=
  ⟨Nat.le_trans h.size (by simp), fun k hk h1 h2 h3 => (Below.heap_setCell _ _ _ _ (by omega)).trans (h.block k hk h1 h2 h3)⟩
theorem OwnE.tri {α : Type} {enc : α → List Value} {k x y z base : Nat} {a b c : World} {t : TypeId} {v : Value} {xs : List α} (hown : OwnE enc k b base t v xs) (h : Tri x y z a b) (hb : a.heap.size ≤ base) (hg : b.grownBy c v.ownBlock) : Tri x y z a c :=
  ⟨Nat.le_trans h.size hg.size, fun i hi h1 h2 h3 => (hg.block i (Nat.lt_of_lt_of_le hi h.size) (by intro e; have := (World.ownsRow.lt hown i e.symm).1; omega)).trans (h.block i hi h1 h2 h3)⟩
/-- A message whose parts were read. -/
def msgR (m : Msg5) : Prop := dotP (m.node, m.n) ∧ Tx 1000 m.queue ∧ Tx 1000 m.body ∧ In 1048576 m.count
theorem tells_msgR : Tells msgR msgL := tells_msg.sub fun m h => by
  obtain ⟨h1, h2, h3, h4, h5⟩ := h
  have hq : (m.queue.size : Int) ≤ 1000 := h2
  have hb : (m.body.size : Int) ≤ 1000 := h3
  exact ⟨h1.up.1, h1.up.2, by omega, by omega, h4, by omega⟩
theorem msg_red {r r0 r1 r2 r3 : Rd} {p q c : Int} {qu bo : ByteArray} (h0 : Red dotP dotL r r0 (p, q)) (h1 : Red (Tx 1000) textZ r0 r1 qu) (h2 : Red (Tx 1000) textZ r1 r2 bo) (h3 : Red (In 1048576) numZ r2 r3 c) : Red msgR msgL r r3 ⟨p, q, qu, bo, c⟩ :=
  (h0.seq (h1.seq (h2.seq h3 (tells_tx (by decide))) (tells_tx (by decide))) tells_dotP).map (fun x : Dot2 × ByteArray × ByteArray × Int => (⟨x.1.1, x.1.2, x.2.1, x.2.2.1, x.2.2.2⟩ : Msg5)) (fun m => ((m.node, m.n), m.queue, m.body, m.count)) (fun _ h => ⟨h, rfl⟩) (fun _ h => ⟨h, rfl⟩)
/-- A bag that is read. -/
abbrev Bag3 := (List Dot2 × List Dot2) × List Msg5
def BagR (p : Bag3) : Prop := (p.1.1.length ≤ 1000 ∧ p.1.2.length ≤ 1000 ∧ p.2.length ≤ 1000) ∧ BagP p.2 p.1.1 p.1.2
def bagZ (p : Bag3) : List UInt8 := bagL p.2 p.1.1 p.1.2
theorem mayM.red {m : Msg5} (h : mayM m) : msgR m := by
  obtain ⟨h1, h2, h3, h4, h5, h6⟩ := h
  exact ⟨h1, show (m.queue.size : Int) ≤ 1000 by omega, show (m.body.size : Int) ≤ 1000 by omega, h5, h6⟩
theorem bagR_iff (p : Bag3) : ((CtxR p.1 ∧ (p.2.length : Int) ≤ 1000 ∧ ∀ m ∈ p.2, msgR m) ∧ BagP p.2 p.1.1 p.1.2) ↔ BagR p := by
  refine ⟨fun h => ⟨⟨h.1.1.1.1, h.1.1.1.2, by have := h.1.2.1; omega⟩, h.2⟩, fun h => ⟨⟨⟨⟨h.1.1, h.1.2.1⟩, h.2.ctx⟩, by have := h.1.2.2; omega, fun m hm => (h.2.live.all (Nat.le_refl _) m hm).1.red⟩, h.2⟩⟩
theorem tells_ctxR : Tells CtxR ctxZ := by
  rintro ⟨x1, x2⟩ ⟨y1, y2⟩ r t hx hy h
  simp only [ctxZ, ctxL, List.append_assoc] at h
  obtain ⟨e1, h⟩ := tells_row tells_dotP _ _ _ _ (show _ from ⟨by have := hx.1.1; simp only at this ⊢; omega, hx.2.dots.1⟩) (show _ from ⟨by have := hy.1.1; simp only at this ⊢; omega, hy.2.dots.1⟩) h
  obtain ⟨e2, h⟩ := tells_row tells_dotP _ _ _ _ (show _ from ⟨by have := hx.1.2; simp only at this ⊢; omega, hx.2.dots.2⟩) (show _ from ⟨by have := hy.1.2; simp only at this ⊢; omega, hy.2.dots.2⟩) h
  exact ⟨by rw [show x1 = y1 from e1, show x2 = y2 from e2], h⟩
def MsgsR (xs : List Msg5) : Prop := (xs.length : Int) ≤ 1000 ∧ ∀ y ∈ xs, msgR y
theorem tells_msgsR : Tells MsgsR (rowL msgL) := (tells_row tells_msgR).sub fun _ h => ⟨by have := h.1; omega, h.2⟩
/-- What bag.Read tells. -/
def BagTells (b : Nat) (r : Rd) (w : World) (e : Ending) (w' : World) : Prop :=
  ∃ am ab ac nl kl nb kb nc kc live bs cl r', e = .returned (.agg #[.slice am nl kl, .slice ab nb kb, .slice ac nc kc]) ∧ (live.length = nl ∧ bs.length = nb ∧ cl.length = nc) ∧ SlE eMsg 5 w' am live ∧ SlP w' ab bs ∧ SlP w' ac cl ∧ (∀ a, am = some a → w.heap.size ≤ a.block) ∧ (∀ a, ab = some a → w.heap.size ≤ a.block) ∧ (∀ a, ac = some a → w.heap.size ≤ a.block) ∧ IsRd w' b r' ∧ Red BagR bagZ r r' ((bs, cl), live) ∧ r'.left.size ≤ 1000000 ∧ Kept b w w'

set_option maxRecDepth 100000 in
set_option maxHeartbeats 8000000 in
theorem rbag_any (b : Nat) (r : Rd) (w : World) (hr : IsRd w b r) (hs : r.left.size ≤ 1000000) :
    Calls Tryz.prog 15 #[.pointer (some ⟨b, 0, none⟩)] w (BagTells b r w) := by
  obtain ⟨x, hx⟩ := nm w.heap.size
  have hbx : b < x := by rw [hx.out]; exact hr.lt
  obtain ⟨w0, hw0⟩ := nm (w.alloc (.cells #[.slice none 0 0, .slice none 0 0, .slice none 0 0] 29))
  have Kx : Hid (Blk w0 x #[.slice none 0 0, .slice none 0 0, .slice none 0 0] 29) := by show Blk _ _ _ _; rw [hw0.out, hx.out]; exact Blk.new _ _ _
  have HR : Hid (IsRd w0 b r) := by show IsRd _ _ _; rw [hw0.out]; exact Blk.alloc hr _
  have HP : Hid (Kept b w w0) := by show Kept _ _ _; rw [hw0.out]; exact (Kept.refl _ _).alloc _
  have hwx : Hid (w.heap.size ≤ x) := Nat.le_of_eq hx.out.symm
  clear hr
  go_enter Tryz.func15, Tryz.ntmps15
  go_upto_region 1 with fail
  rw [← hw0.out, ← hx.out]
  go_wp2_with fail
  refine (rctx_any b r _ HR.out hs).mono ?_; rintro e w1 ⟨ab, ac, nb, kb, nc, kc, bs, cl, r1, rfl, hnb, hnc, hsb, hsc, hfb, hfc, h1, hd1, hs1, hk⟩
  have hx0 : x < w0.heap.size := Kx.out.lt
  have HFB : Hid (∀ a, ab = some a → x < a.block) := fun a ha => by have := hfb a ha; omega
  have HFC : Hid (∀ a, ac = some a → x < a.block) := fun a ha => by have := hfc a ha; omega
  replace Kx := Lib.hid (hk.blk Kx.out (by omega))
  replace HP := Lib.hid (HP.out.trans hk)
  obtain ⟨c, hc⟩ := nm w1.heap.size
  have hbc : b < c := by rw [hc.out]; exact h1.lt
  have hxc : x < c := by rw [hc.out]; exact Kx.out.lt
  have HSB : Hid (SlP w1 ab bs) := hsb
  have HSC : Hid (SlP w1 ac cl) := hsc
  have HLB : Hid (∀ a, ab = some a → 0 < bs.length → a.block < c) := by
    show ∀ a, _
    intro a ha h0
    obtain ⟨b', off', e, hl⟩ := HSB.out.base h0
    rw [ha] at e; cases e; rw [hc.out]; exact hl
  have HLC : Hid (∀ a, ac = some a → 0 < cl.length → a.block < c) := by
    show ∀ a, _
    intro a ha h0
    obtain ⟨b', off', e, hl⟩ := HSC.out.base h0
    rw [ha] at e; cases e; rw [hc.out]; exact hl
  obtain ⟨w2, hw2⟩ := nm (w1.alloc (.cells #[.slice none 0 0, .slice ab nb kb, .slice ac nc kc] 29))
  have Kc : Hid (Blk w2 c #[.slice none 0 0, .slice ab nb kb, .slice ac nc kc] 29) := by show Blk _ _ _ _; rw [hw2.out, hc.out]; exact Blk.new _ _ _
  replace Kx : Hid (Blk w2 x #[.slice none 0 0, .slice none 0 0, .slice none 0 0] 29) := by show Blk _ _ _ _; rw [hw2.out]; exact Kx.out.alloc _
  replace HR : Hid (IsRd w2 b r1) := by show IsRd _ _ _; rw [hw2.out]; exact Blk.alloc h1 _
  replace HP : Hid (Kept b w w2) := by show Kept _ _ _; rw [hw2.out]; exact HP.out.alloc _
  obtain ⟨B0, hB0⟩ := nm w2.heap.size
  have hcB : c < B0 := by rw [hB0.out, hw2.out, hc.out]; simp
  have hwc : w.heap.size ≤ c := by rw [← hx.out]; omega
  have stay : ∀ w', Tri b x c w2 w' → SlP w' ab bs ∧ SlP w' ac cl := by
    intro w' ht
    have ht1 : Tri b x c w1 w' := by
      have : Tri b x c w1 w2 := by rw [hw2.out]; exact (Tri.refl _ _ _ _).alloc _
      exact this.trans ht
    constructor
    · rcases Nat.eq_zero_or_pos bs.length with h0 | h0
      · rw [List.length_eq_zero_iff.1 h0]; exact SlP.nil _ _
      · exact HSB.out.tri (fun a ha => by have h2 := HFB.out a ha; have h3 := HLB.out a ha h0; exact ⟨by omega, by omega, by omega⟩) ht1
    · rcases Nat.eq_zero_or_pos cl.length with h0 | h0
      · rw [List.length_eq_zero_iff.1 h0]; exact SlP.nil _ _
      · exact HSC.out.tri (fun a ha => by have h2 := HFC.out a ha; have h3 := HLC.out a ha h0; exact ⟨by omega, by omega, by omega⟩) ht1
  have STAY := Lib.hid stay
  have D1 := Lib.hid hd1
  have HNB := Lib.hid hnb
  have HNC := Lib.hid hnc
  have HWB : Hid (∀ a, ab = some a → w.heap.size ≤ a.block) := fun a ha => by have := HFB.out a ha; have := hwx.out; omega
  have HWC : Hid (∀ a, ac = some a → w.heap.size ≤ a.block) := fun a ha => by have := HFC.out a ha; have := hwx.out; omega
  obtain ⟨i1, i2, i3⟩ := r1.int_lt 1000
  have hq0 := red_int r1 1000 (by decide)
  obtain ⟨q, hq⟩ := nm (r1.int 1000).1
  obtain ⟨n, hn⟩ := nm (r1.int 1000).2
  rw [← hq.out] at i2 hq0
  rw [← hn.out] at i1 i3 hq0
  have hnm : n ≤ 1000 := by omega
  have hqs : q.left.size ≤ 1000000 := by omega
  have HQ := Lib.hid hq0
  have bad : ∀ w' r' rr (zs : List Msg5), Red MsgsR (rowL msgL) r1 rr zs → r'.torn = true → r'.left.size ≤ 1000000 → (rr.torn = true ∨ ¬ BagP zs bs cl) → IsRd w' b r' → Kept b w w' → BagTells b r w (.returned (.agg #[.slice none 0 0, .slice none 0 0, .slice none 0 0])) w' := by
    intro w' r' rr zs hred h1 h2 h3 h4 h5
    refine ⟨none, none, none, 0, 0, 0, 0, 0, 0, [], [], [], r', rfl, ⟨rfl, rfl, rfl⟩, SlE.nil _ _ _ _, SlP.nil _ _, SlP.nil _ _, fun a h => (by cases h), fun a h => (by cases h), fun a h => (by cases h), h4, ?_, h2, h5⟩
    have hall := D1.out.seq hred tells_ctxR
    exact (Red.fail (C := fun p : Bag3 => BagP p.2 p.1.1 p.1.2) hall (tells_ctxR.seq tells_msgsR) h3 h1).iff bagR_iff
  have BAD := Lib.hid bad
  clear h1 hk hsb hsc hfb hfc hd1 hnb hnc stay bad i1 i2 i3 hq0 HLB HLC HFB HFC
  go_upto_region 2 with fail
  rw [← hw2.out, ← hc.out]
  go_wp2_with fail
  refine (rint_any b r1 1000 _ HR.out (by omega) (by decide)).mono ?_; rintro e w3 ⟨rfl, h3, hk⟩
  rw [← hq.out] at h3
  rw [← hn.out]
  replace HR := Lib.hid h3
  replace Kx := Lib.hid (hk.blk Kx.out (by omega))
  replace Kc := Lib.hid (hk.blk Kc.out (by omega))
  replace HP := Lib.hid (HP.out.trans hk)
  have HT : Hid (Tri b x c w2 w3) := Tri.ofKept hk
  clear h3 hk
  go_wp2_with fail
  go_loopw [10] (fun i wr => ∃ (k : Nat) (ri : Rd) (zs : List Msg5) (v : Value), k ≤ n ∧ i = .int .i64 (k : Int) ∧ zs.length = k ∧ Hid (IsRd wr b ri) ∧ Hid (Blk wr c #[v, .slice ab nb kb, .slice ac nc kc] 29) ∧ Hid (Blk wr x #[.slice none 0 0, .slice none 0 0, .slice none 0 0] 29) ∧ OwnE eMsg 5 wr B0 84 v zs ∧ Hid (Kept b w wr) ∧ Hid (Tri b x c w2 wr) ∧ ri.left.size ≤ 1000000 ∧ Hid (RedN msgR msgL n q k ri zs)) (fun i _ => n - (intOf i).toNat)
  case atStart => exact ⟨0, q, [], _, by omega, rfl, rfl, HR, Kc, Kx, OwnE.nil _ _ _, HP, HT, hqs, RedN.zero q⟩
  case round =>
    clear HR Kx Kc HP HT
    obtain ⟨k, ri, zs, v, hkn, rfl, hz, HR, Kc, Kx, hown, HP, HT, hsz, hI⟩ := hrel
    by_cases hlt : k < n
    · go_wp2_with fail
      refine (rdot_red b ri _ HR.out hsz).mono ?_; rintro e w4 ⟨p, pn, q0, rfl, h4, hred0, z0, hk4⟩
      have hbB : b < B0 := by omega
      have HO : Hid (OwnE eMsg 5 w4 B0 84 v zs) := hown.kept hk4 hbB
      replace HR := Lib.hid h4
      replace Kx := Lib.hid (hk4.blk Kx.out (by omega))
      replace Kc := Lib.hid (hk4.blk Kc.out (by omega))
      replace HP := Lib.hid (HP.out.trans hk4)
      replace HT := Lib.hid (HT.out.trans (Tri.ofKept hk4))
      have R0 := Lib.hid hred0
      clear hown h4 hk4 hred0
      obtain ⟨d, hd⟩ := nm w4.heap.size
      have hbd : b < d := by rw [hd.out]; exact HR.out.lt
      have hxd : x < d := by rw [hd.out]; exact Kx.out.lt
      have hcd : c < d := by rw [hd.out]; exact Kc.out.lt
      have hwd : w.heap.size ≤ d := by rw [hd.out]; exact HP.out.size
      have hBd : w2.heap.size ≤ d := by rw [hd.out]; exact HT.out.size
      have HD : Hid (∀ g, v.ownBlock = some g → g < d) := by show ∀ g, _; rw [hd.out]; exact fun g hg => (World.ownsRow.lt HO.out g hg).2
      obtain ⟨w5, hw5⟩ := nm (w4.alloc (.cells #[.int .i64 p, .int .i64 pn, .string ⟨#[]⟩, .string ⟨#[]⟩, .int .i64 0] 84))
      have Kd : Hid (Blk w5 d #[.int .i64 p, .int .i64 pn, .string ⟨#[]⟩, .string ⟨#[]⟩, .int .i64 0] 84) := by show Blk _ _ _ _; rw [hw5.out, hd.out]; exact Blk.new _ _ _
      replace HR : Hid (IsRd w5 b q0) := by show IsRd _ _ _; rw [hw5.out]; exact Blk.alloc HR.out _
      replace Kx : Hid (Blk w5 x #[.slice none 0 0, .slice none 0 0, .slice none 0 0] 29) := by show Blk _ _ _ _; rw [hw5.out]; exact Kx.out.alloc _
      replace Kc : Hid (Blk w5 c #[v, .slice ab nb kb, .slice ac nc kc] 29) := by show Blk _ _ _ _; rw [hw5.out]; exact Kc.out.alloc _
      replace HO : Hid (OwnE eMsg 5 w5 B0 84 v zs) := by show OwnE _ _ _ _ _ _ _; rw [hw5.out]; exact HO.out.alloc _
      replace HP : Hid (Kept b w w5) := by show Kept _ _ _; rw [hw5.out]; exact HP.out.alloc _
      replace HT : Hid (Tri b x c w2 w5) := by show Tri _ _ _ _ _; rw [hw5.out]; exact HT.out.alloc _
      go_upto_region 5 with fail
      rw [← hw5.out, ← hd.out]
      clear hw5
      have r2 := red_text q0 1000 (by decide)
      have z2 := q0.text_sz 1000
      obtain ⟨q1, hq1⟩ := nm (q0.text 1000).1
      obtain ⟨qu, hqu⟩ := nm (q0.text 1000).2
      rw [← hq1.out, ← hqu.out] at r2
      rw [← hq1.out] at z2
      have R2 := Lib.hid r2
      clear r2
      go_wp2_with fail
      refine (rtext_any b q0 1000 _ HR.out (by omega) (by decide)).mono ?_; rintro e w6 ⟨rfl, h6, hk6⟩
      rw [← hq1.out] at h6
      rw [← hqu.out]
      replace Kd := Lib.hid (hk6.blk Kd.out (by omega))
      replace Kx := Lib.hid (hk6.blk Kx.out (by omega))
      replace Kc := Lib.hid (hk6.blk Kc.out (by omega))
      replace HO := Lib.hid (HO.out.kept hk6 hbB)
      replace HP := Lib.hid (HP.out.trans hk6)
      replace HT := Lib.hid (HT.out.trans (Tri.ofKept hk6))
      have dc : w6.cell? ⟨d, 2, none⟩ = some (.string ⟨#[]⟩) := Kd.out.cell 2
      have df : w6.frozen? ⟨d, 2, none⟩ = false := Kd.out.free 2
      obtain ⟨w7, hw7⟩ := nm (w6.setCell ⟨d, 2, none⟩ (.string qu))
      replace Kd : Hid (Blk w7 d #[.int .i64 p, .int .i64 pn, .string qu, .string ⟨#[]⟩, .int .i64 0] 84) := by show Blk _ _ _ _; rw [hw7.out]; exact Kd.out.set 2 _
      replace Kx : Hid (Blk w7 x #[.slice none 0 0, .slice none 0 0, .slice none 0 0] 29) := by show Blk _ _ _ _; rw [hw7.out]; exact Kx.out.setOther (by simp only; omega) _
      replace Kc : Hid (Blk w7 c #[v, .slice ab nb kb, .slice ac nc kc] 29) := by show Blk _ _ _ _; rw [hw7.out]; exact Kc.out.setOther (by simp only; omega) _
      have HRn : Hid (IsRd w7 b q1) := by show IsRd _ _ _; rw [hw7.out]; exact Blk.setOther h6 (by simp only; omega) _
      replace HO : Hid (OwnE eMsg 5 w7 B0 84 v zs) := by show OwnE _ _ _ _ _ _ _; rw [hw7.out]; exact HO.out.setAt HD.out
      replace HP : Hid (Kept b w w7) := by show Kept _ _ _; rw [hw7.out]; exact HP.out.setNew hwd _
      replace HT : Hid (Tri b x c w2 w7) := by show Tri _ _ _ _ _; rw [hw7.out]; exact HT.out.setNew hBd _
      clear hk6 h6 HR
      have HR := HRn
      clear HRn
      go_upto_region 6 with fail
      rw [← hw7.out]
      clear dc df hw7
      have r3 := red_text q1 1000 (by decide)
      have z3 := q1.text_sz 1000
      obtain ⟨q2, hq2⟩ := nm (q1.text 1000).1
      obtain ⟨bo, hbo⟩ := nm (q1.text 1000).2
      rw [← hq2.out, ← hbo.out] at r3
      rw [← hq2.out] at z3
      have R3 := Lib.hid r3
      clear r3
      go_wp2_with fail
      refine (rtext_any b q1 1000 _ HR.out (by omega) (by decide)).mono ?_; rintro e w6 ⟨rfl, h6, hk6⟩
      rw [← hq2.out] at h6
      rw [← hbo.out]
      replace Kd := Lib.hid (hk6.blk Kd.out (by omega))
      replace Kx := Lib.hid (hk6.blk Kx.out (by omega))
      replace Kc := Lib.hid (hk6.blk Kc.out (by omega))
      replace HO := Lib.hid (HO.out.kept hk6 hbB)
      replace HP := Lib.hid (HP.out.trans hk6)
      replace HT := Lib.hid (HT.out.trans (Tri.ofKept hk6))
      have dc : w6.cell? ⟨d, 3, none⟩ = some (.string ⟨#[]⟩) := Kd.out.cell 3
      have df : w6.frozen? ⟨d, 3, none⟩ = false := Kd.out.free 3
      obtain ⟨w7, hw7⟩ := nm (w6.setCell ⟨d, 3, none⟩ (.string bo))
      replace Kd : Hid (Blk w7 d #[.int .i64 p, .int .i64 pn, .string qu, .string bo, .int .i64 0] 84) := by show Blk _ _ _ _; rw [hw7.out]; exact Kd.out.set 3 _
      replace Kx : Hid (Blk w7 x #[.slice none 0 0, .slice none 0 0, .slice none 0 0] 29) := by show Blk _ _ _ _; rw [hw7.out]; exact Kx.out.setOther (by simp only; omega) _
      replace Kc : Hid (Blk w7 c #[v, .slice ab nb kb, .slice ac nc kc] 29) := by show Blk _ _ _ _; rw [hw7.out]; exact Kc.out.setOther (by simp only; omega) _
      have HRn : Hid (IsRd w7 b q2) := by show IsRd _ _ _; rw [hw7.out]; exact Blk.setOther h6 (by simp only; omega) _
      replace HO : Hid (OwnE eMsg 5 w7 B0 84 v zs) := by show OwnE _ _ _ _ _ _ _; rw [hw7.out]; exact HO.out.setAt HD.out
      replace HP : Hid (Kept b w w7) := by show Kept _ _ _; rw [hw7.out]; exact HP.out.setNew hwd _
      replace HT : Hid (Tri b x c w2 w7) := by show Tri _ _ _ _ _; rw [hw7.out]; exact HT.out.setNew hBd _
      clear hk6 h6 HR
      have HR := HRn
      clear HRn
      go_upto_region 7 with fail
      rw [← hw7.out]
      clear dc df hw7
      have r4 := red_int q2 1048576 (by decide)
      have z4 := q2.int_sz 1048576
      obtain ⟨q3, hq3⟩ := nm (q2.int 1048576).1
      obtain ⟨ct, hct⟩ := nm (((q2.int 1048576).2 : Nat) : Int)
      rw [← hq3.out, ← hct.out] at r4
      rw [← hq3.out] at z4
      have R4 := Lib.hid r4
      clear r4
      go_wp2_with fail
      refine (rint_any b q2 1048576 _ HR.out (by omega) (by decide)).mono ?_; rintro e w6 ⟨rfl, h6, hk6⟩
      rw [← hq3.out] at h6
      rw [← hct.out]
      replace Kd := Lib.hid (hk6.blk Kd.out (by omega))
      replace Kx := Lib.hid (hk6.blk Kx.out (by omega))
      replace Kc := Lib.hid (hk6.blk Kc.out (by omega))
      replace HO := Lib.hid (HO.out.kept hk6 hbB)
      replace HP := Lib.hid (HP.out.trans hk6)
      replace HT := Lib.hid (HT.out.trans (Tri.ofKept hk6))
      have dc : w6.cell? ⟨d, 4, none⟩ = some (.int .i64 0) := Kd.out.cell 4
      have df : w6.frozen? ⟨d, 4, none⟩ = false := Kd.out.free 4
      obtain ⟨w7, hw7⟩ := nm (w6.setCell ⟨d, 4, none⟩ (.int .i64 ct))
      replace Kd : Hid (Blk w7 d #[.int .i64 p, .int .i64 pn, .string qu, .string bo, .int .i64 ct] 84) := by show Blk _ _ _ _; rw [hw7.out]; exact Kd.out.set 4 _
      replace Kx : Hid (Blk w7 x #[.slice none 0 0, .slice none 0 0, .slice none 0 0] 29) := by show Blk _ _ _ _; rw [hw7.out]; exact Kx.out.setOther (by simp only; omega) _
      replace Kc : Hid (Blk w7 c #[v, .slice ab nb kb, .slice ac nc kc] 29) := by show Blk _ _ _ _; rw [hw7.out]; exact Kc.out.setOther (by simp only; omega) _
      have HRn : Hid (IsRd w7 b q3) := by show IsRd _ _ _; rw [hw7.out]; exact Blk.setOther h6 (by simp only; omega) _
      replace HO : Hid (OwnE eMsg 5 w7 B0 84 v zs) := by show OwnE _ _ _ _ _ _ _; rw [hw7.out]; exact HO.out.setAt HD.out
      replace HP : Hid (Kept b w w7) := by show Kept _ _ _; rw [hw7.out]; exact HP.out.setNew hwd _
      replace HT : Hid (Tri b x c w2 w7) := by show Tri _ _ _ _ _; rw [hw7.out]; exact HT.out.setNew hBd _
      clear hk6 h6 HR
      have HR := HRn
      clear HRn
      go_upto_region 8 with fail
      rw [← hw7.out]
      clear dc df hw7
      have HN : Hid (RedN msgR msgL n q (k + 1) q3 (zs ++ [Msg5.mk p pn qu bo ct])) := hI.out.next tells_msgR hlt (msg_red R0.out R2.out R3.out R4.out)
      clear hI R0 R2 R3 R4
      have hsz3 : q3.left.size ≤ 1000000 := by omega
      have hB7 : B0 ≤ w7.heap.size := by rw [hB0.out]; exact HT.out.size
      have y0 : w7.cell? ⟨d, 0, none⟩ = some (.int .i64 p) := Kd.out.cell 0
      have y1 : w7.cell? ⟨d, 1, none⟩ = some (.int .i64 pn) := Kd.out.cell 1
      have y2 : w7.cell? ⟨d, 2, none⟩ = some (.string qu) := Kd.out.cell 2
      have y3 : w7.cell? ⟨d, 3, none⟩ = some (.string bo) := Kd.out.cell 3
      have y4 : w7.cell? ⟨d, 4, none⟩ = some (.int .i64 ct) := Kd.out.cell 4
      have e0 : w7.cell? ⟨c, 0, none⟩ = some v := Kc.out.cell 0
      go_wp2_with (at_builtin; refine app_E encMsg Tryz.underlying24 infoMsg rfl (by decide) rfl _ _ rfl B0 _ zs rfl (HO.out.alloc _) (some ⟨w7.heap.size, 0, none⟩) 1 1 [Msg5.mk p pn qu bo ct] rfl rfl (fun h => by cases h) (SlE.ofBlk encMsg (Blk.new w7 _ _)) (by omega) (Nat.le_trans hB7 (by simp)) ?_)
      intro v' w8 hown8 hgrow
      obtain ⟨ao2, len2, cap2, rfl⟩ : ∃ a l c, v' = .slice a l c := by
        obtain ⟨a, c, e, _⟩ := hown8.sl encMsg
        exact ⟨a, _, c, e⟩
      have HR8 : Hid (IsRd w8 b q3) := OwnE.blk (HO.out.alloc _) (Blk.alloc HR.out _) hbB hgrow
      have Kc8 : Hid (Blk w8 c #[v, .slice ab nb kb, .slice ac nc kc] 29) := OwnE.blk (HO.out.alloc _) (Blk.alloc Kc.out _) (by omega) hgrow
      have Kx8 : Hid (Blk w8 x #[.slice none 0 0, .slice none 0 0, .slice none 0 0] 29) := OwnE.blk (HO.out.alloc _) (Blk.alloc Kx.out _) (by omega) hgrow
      have HP8 : Hid (Kept b w w8) := OwnE.grownK (HO.out.alloc _) (HP.out.alloc _) (by omega) hgrow
      have HT8 : Hid (Tri b x c w2 w8) := OwnE.tri (HO.out.alloc _) (HT.out.alloc _) (Nat.le_of_eq hB0.out.symm) hgrow
      clear hgrow HR Kx Kc HO HP HT Kd HD y0 y1 y2 y3 y4 e0
      have e0 : w8.cell? ⟨c, 0, none⟩ = some v := Kc8.out.cell 0
      have ef : w8.frozen? ⟨c, 0, none⟩ = false := Kc8.out.free 0
      obtain ⟨w9, hw9⟩ := nm (w8.setCell ⟨c, 0, none⟩ (.slice ao2 len2 cap2))
      have Kc : Hid (Blk w9 c #[.slice ao2 len2 cap2, .slice ab nb kb, .slice ac nc kc] 29) := by show Blk _ _ _ _; rw [hw9.out]; exact Kc8.out.set 0 _
      have Kx : Hid (Blk w9 x #[.slice none 0 0, .slice none 0 0, .slice none 0 0] 29) := by show Blk _ _ _ _; rw [hw9.out]; exact Kx8.out.setOther (by simp only; omega) _
      have HR : Hid (IsRd w9 b q3) := by show IsRd _ _ _; rw [hw9.out]; exact Blk.setOther HR8.out (by simp only; omega) _
      have HO : Hid (OwnE eMsg 5 w9 B0 84 (.slice ao2 len2 cap2) (zs ++ [Msg5.mk p pn qu bo ct])) := by show OwnE _ _ _ _ _ _ _; rw [hw9.out]; exact OwnE.kept (b := c) (base := B0) hown8 ((Kept.refl c w8).set 0 _) (by omega)
      have HP : Hid (Kept b w w9) := by show Kept _ _ _; rw [hw9.out]; exact HP8.out.setNew hwc _
      have HT : Hid (Tri b x c w2 w9) := by show Tri _ _ _ _ _; rw [hw9.out]; exact HT8.out.set (p := ⟨c, 0, none⟩) (.inr (.inr rfl)) _
      clear HR8 Kc8 Kx8 HP8 HT8 hown8
      go_upto_region 9 with fail
      rw [← hw9.out]
      clear e0 ef hw9
      obtain ⟨T, hT⟩ := nm q3.torn
      go_wp2_with fail
      refine (fine_is' T b q3 hT _ HR.out).mono ?_; rintro e wa ⟨rfl, rfl⟩
      cases T
      · go_wp2_with fail
        go_roundw
        case rel => exact ⟨k + 1, q3, zs ++ [Msg5.mk p pn qu bo ct], _, by omega, by go_num, by simp [hz], HR, Kc, Kx, HO.out, HP, HT, hsz3, HN⟩
        case measure => simp [intOf]; omega
      · have htt : q3.torn = true := by first | exact hT.out.symm | simpa using hT.out
        have xb := Kx.out
        have xc0 := xb.cell 0
        have xc1 := xb.cell 1
        have xc2 := xb.cell 2
        have xf0 := xb.free 0
        have xf1 := xb.free 1
        have xf2 := xb.free 2
        go_wp2_with fail
        refine bodyPost_ret (results_cell_row rfl _ _ x 29 #[.slice none 0 0, .slice none 0 0, .slice none 0 0] (0, 0) _ rfl (((xb.set 0 _).set 1 _).set 2 _) Tryz.underlying29 rfl infoBg) rfl ?_
        exact BAD.out _ q3 q3 [] (HN.out.stop HQ.out (by decide) htt htt) htt hsz3 (.inl htt) (Blk.setOther (Blk.setOther (Blk.setOther HR.out (by simp only; omega) _) (by simp only; omega) _) (by simp only; omega) _) (((HP.out.setNew hwx.out _).setNew hwx.out _).setNew hwx.out _)
    · obtain rfl : k = n := by omega
      have hall : Red MsgsR (rowL msgL) r1 ri zs := hI.out.red HQ.out (by decide)
      have HALL := Lib.hid hall
      clear hI HQ hall
      obtain ⟨am, kl, rfl, _, _, hsl, _, hab⟩ := hown.sl encMsg
      have HSL := Lib.hid hsl
      have HZ : Hid (zs.length = k) := hz
      have HWA : Hid (∀ a, am = some a → w.heap.size ≤ a.block) := fun a ha => by have := hab a ha; omega
      have HAB := Lib.hid hab
      clear hown hsl hab
      rw [hz] at Kc
      clear hz
      obtain ⟨t1, t2⟩ := ri.int_neg
      obtain ⟨T, hT⟩ := nm ri.torn
      cases T
      rotate_left
      · have xc : wr.cell? ⟨x, 0, none⟩ = some (.slice none 0 0) := Kx.out.cell 0
        go_wp2_with fail
        refine (fine_is' true b ri hT _ HR.out).mono ?_; rintro e w5 ⟨rfl, rfl⟩
        go_wp2_with fail
        refine (rint_any b ri (-1) _ HR.out (by omega) (by decide)).mono ?_; rintro e w6 ⟨rfl, h6, hk6⟩
        have xb := hk6.blk Kx.out (by omega)
        clear xc
        have xc0 := xb.cell 0
        have xc1 := xb.cell 1
        have xc2 := xb.cell 2
        have xf0 := xb.free 0
        have xf1 := xb.free 1
        have xf2 := xb.free 2
        go_wp2_with fail
        refine bodyPost_ret (results_cell_row rfl _ _ x 29 #[.slice none 0 0, .slice none 0 0, .slice none 0 0] (0, 0) _ rfl (((xb.set 0 _).set 1 _).set 2 _) Tryz.underlying29 rfl infoBg) rfl ?_
        exact BAD.out _ _ ri zs HALL.out t1 (by omega) (.inl hT.out.symm) (Blk.setOther (Blk.setOther (Blk.setOther h6 (by simp only; omega) _) (by simp only; omega) _) (by simp only; omega) _) ((((HP.out.trans hk6).setNew hwx.out _).setNew hwx.out _).setNew hwx.out _)
      obtain ⟨j1, j2, j3⟩ := D1.out.is (HALL.out.is hT.out.symm).1
      have hln1 : bs.length ≤ 1000 := j2.1.1
      have hln2 : cl.length ≤ 1000 := j2.1.2
      clear j1 j2 j3
      have hnb6 : nb ≤ 1000000 := by rw [← HNB.out]; omega
      have hnc6 : nc ≤ 1000000 := by rw [← HNC.out]; omega
      clear hln1 hln2
      obtain ⟨B, hB, hBf, hBt⟩ := boolOf (BagP zs bs cl)
      obtain ⟨E, hE⟩ := nm (errno B)
      obtain ⟨s1, s2⟩ := STAY.out _ HT.out
      have cc0 : wr.cell? ⟨c, 0, none⟩ = some (.slice am k kl) := Kc.out.cell 0
      have cc1 : wr.cell? ⟨c, 1, none⟩ = some (.slice ab nb kb) := Kc.out.cell 1
      have cc2 : wr.cell? ⟨c, 2, none⟩ = some (.slice ac nc kc) := Kc.out.cell 2
      go_wp2_with fail
      refine (fine_is' false b ri hT _ HR.out).mono ?_; rintro e w5 ⟨rfl, rfl⟩
      go_wp2_with fail
      refine (bagcheck_any am ab ac k kl nb kb nc kc zs bs cl HZ (by omega) HNB hnb6 HNC hnc6 B hB E hE _ HSL.out s1 s2).mono ?_; rintro e w6 ⟨rfl, hB6⟩
      have hxr := Kx.out.lt
      have hcr := Kc.out.lt
      have hbr := HR.out.lt
      replace Kx := Lib.hid (Kx.out.below hB6 hxr)
      replace Kc := Lib.hid (Kc.out.below hB6 hcr)
      replace HR : Hid (IsRd w6 b ri) := Blk.below HR.out hB6 hbr
      replace HP := Lib.hid (HP.out.trans (Kept.ofBelow hB6))
      replace HT := Lib.hid (HT.out.trans (Tri.ofBelow hB6))
      replace HSL := Lib.hid (HSL.out.below hB6)
      clear cc0 cc1 cc2 s1 s2 hB6 hxr hcr hbr
      have hE2 := hE.out
      cases B
      · obtain rfl : E = 1 := hE2
        have xc : w6.cell? ⟨x, 0, none⟩ = some (.slice none 0 0) := Kx.out.cell 0
        go_wp2_with fail
        refine (rint_any b ri (-1) _ HR.out (by omega) (by decide)).mono ?_; rintro e w7 ⟨rfl, h7, hk7⟩
        have xb := hk7.blk Kx.out (by omega)
        clear xc
        have xc0 := xb.cell 0
        have xc1 := xb.cell 1
        have xc2 := xb.cell 2
        have xf0 := xb.free 0
        have xf1 := xb.free 1
        have xf2 := xb.free 2
        go_wp2_with fail
        refine bodyPost_ret (results_cell_row rfl _ _ x 29 #[.slice none 0 0, .slice none 0 0, .slice none 0 0] (0, 0) _ rfl (((xb.set 0 _).set 1 _).set 2 _) Tryz.underlying29 rfl infoBg) rfl ?_
        exact BAD.out _ _ ri zs HALL.out t1 (by omega) (.inr (hBf.out (by first | exact rfl | exact trivial))) (Blk.setOther (Blk.setOther (Blk.setOther h7 (by simp only; omega) _) (by simp only; omega) _) (by simp only; omega) _) ((((HP.out.trans hk7).setNew hwx.out _).setNew hwx.out _).setNew hwx.out _)
      · obtain rfl : E = 0 := hE2
        have xb := Kx.out
        have xc0 := xb.cell 0
        have xc1 := xb.cell 1
        have xc2 := xb.cell 2
        have xf0 := xb.free 0
        have xf1 := xb.free 1
        have xf2 := xb.free 2
        have cc0 : w6.cell? ⟨c, 0, none⟩ = some (.slice am k kl) := Kc.out.cell 0
        have cc1 : w6.cell? ⟨c, 1, none⟩ = some (.slice ab nb kb) := Kc.out.cell 1
        have cc2 : w6.cell? ⟨c, 2, none⟩ = some (.slice ac nc kc) := Kc.out.cell 2
        go_wp2_with fail
        refine bodyPost_ret (results_cell_row rfl _ _ x 29 #[.slice am k kl, .slice ab nb kb, .slice ac nc kc] (0, 0) _ rfl (((xb.set 0 _).set 1 _).set 2 _) Tryz.underlying29 rfl infoBg) rfl ?_
        have ht3 : Tri b x c w6 (((w6.setCell ⟨x, 0, none⟩ (.slice am k kl)).setCell ⟨x, 1, none⟩ (.slice ab nb kb)).setCell ⟨x, 2, none⟩ (.slice ac nc kc)) := (((Tri.refl _ _ _ _).set (p := ⟨x, 0, none⟩) (.inr (.inl rfl)) _).set (p := ⟨x, 1, none⟩) (.inr (.inl rfl)) _).set (p := ⟨x, 2, none⟩) (.inr (.inl rfl)) _
        have h7 := STAY.out _ (HT.out.trans ht3)
        refine ⟨am, ab, ac, k, kl, nb, kb, nc, kc, zs, bs, cl, ri, rfl, ⟨HZ.out, HNB.out, HNC.out⟩, HSL.out.tri (fun a ha => by have := HAB.out a ha; exact ⟨by omega, by omega, by omega⟩) ht3, h7.1, h7.2, HWA.out, HWB.out, HWC.out, (Blk.setOther (Blk.setOther (Blk.setOther HR.out (by simp only; omega) _) (by simp only; omega) _) (by simp only; omega) _), ?_, hsz, (((HP.out.setNew hwx.out _).setNew hwx.out _).setNew hwx.out _)⟩
        exact (Red.pass (C := fun p : Bag3 => BagP p.2 p.1.1 p.1.2) (D1.out.seq HALL.out tells_ctxR) fun _ => hBt.out (by first | exact rfl | exact trivial)).iff bagR_iff
end Go.Proofs.YtfpjdmplepepjaaGreat

