/- view.Check, of views that may be. -/
import Derived.Test.YtpolhdkjkidpgaaViewMay
import Derived.Test.YtpolhdkjkidpgaaPeerEq
import Derived.Deep.RegionHeld3
import Derived.Outline
import Derived.Deep.DeepCutAuto
namespace Go.Proofs.Ytpolhdkjkidpgaa
open Go.RowKit Go.Shelf Go.Lib Go.Sort

theorem takeL {l : List Oper} {i : Nat} {o : Oper} (h : l[i]? = some o) : (l.toArray)[i]? = some o := by simpa using h
theorem sortT_at {L : List P3} (h : SortT L) {m k : Nat} {p q : P3} (hmk : m < k) (hp : L[m]? = some p) (hq : L[k]? = some q) : p.1 < q.1 := by
  obtain ⟨h1, h2⟩ := List.getElem?_eq_some_iff.1 hp
  obtain ⟨h3, h4⟩ := List.getElem?_eq_some_iff.1 hq
  rw [← h2, ← h4]
  exact List.pairwise_iff_getElem.1 h m k h1 h3 hmk

set_option maxRecDepth 100000 in
set_option maxHeartbeats 4000000 in
theorem check_any (A : List P3) (hA : Vok A) (v : Value) (w : World) (hv : Vw w v A) :
    Calls Try.prog 14 #[v] w fun e w' => e = .returned (.int .i64 0) ∧ Below w.heap.size w w' := by
  obtain ⟨ao, cap, rfl, hc, hno, hsl⟩ := hv
  obtain ⟨n, hn⟩ := nm A.length
  have hn64 : n ≤ 64 := by rw [hn.out]; exact hA.len
  rw [← hn.out] at hc ⊢
  have HS := Lib.hid hsl
  have HA := Lib.hid hA
  clear hsl hno hA
  go_enter Try.func14, Try.ntmps14
  go_wp2_with fail
  go_loopw [10] (fun i wr => ∃ k : Nat, k ≤ n ∧ i = .int .i64 (k : Int) ∧ Below w.heap.size w wr) (fun i _ => n - (intOf i).toNat)
  case atStart => exact ⟨0, by omega, rfl, Below.refl _ _⟩
  case round =>
    obtain ⟨k, hk, rfl, hB⟩ := hrel
    by_cases hlt : k < n
    · obtain ⟨b, off, x, y, z, rfl, hbl, c0, c1, c2, hpk⟩ := HS.out.get k (by rw [← hn.out]; exact hlt)
      have d0 : wr.cell? ⟨b, off + k * 3, none⟩ = some (.int .i64 x) := (hB.cell (p := ⟨b, off + k * 3, none⟩) hbl).trans c0
      have d1 : wr.cell? ⟨b, off + k * 3 + 1, none⟩ = some (.int .i64 y) := (hB.cell (p := ⟨b, off + k * 3 + 1, none⟩) hbl).trans c1
      have d2 : wr.cell? ⟨b, off + k * 3 + 2, none⟩ = some (.int .i64 z) := (hB.cell (p := ⟨b, off + k * 3 + 2, none⟩) hbl).trans c2
      have hmay : mayP (x, y, z) = true := HA.out.may _ (List.mem_of_getElem? hpk.out)
      have HM : Hid (∀ w, Calls Try.prog 42 #[.agg #[.int .i64 x, .int .i64 y, .int .i64 z]] w fun e w' => e = .returned (.bool true) ∧ w' = w.alloc (.cells #[.int .i64 x, .int .i64 y, .int .i64 z] 32)) := by intro w; have := may_any x y z w; rw [hmay] at this; exact this
      obtain ⟨w1, hw1⟩ := nm (wr.alloc (.cells #[.int .i64 x, .int .i64 y, .int .i64 z] 32))
      have hbk : Blk w1 wr.heap.size #[.int .i64 x, .int .i64 y, .int .i64 z] 32 := by rw [hw1.out]; exact Blk.new _ _ _
      have q0 : w1.cell? ⟨wr.heap.size, 0, none⟩ = some (.int .i64 x) := hbk.cell 0
      have q1 : w1.cell? ⟨wr.heap.size, 1, none⟩ = some (.int .i64 y) := hbk.cell 1
      have q2 : w1.cell? ⟨wr.heap.size, 2, none⟩ = some (.int .i64 z) := hbk.cell 2
      have HB1 : Hid (Below w.heap.size w w1) := by rw [hw1.out]; exact bNew hB _
      clear c0 c1 c2 hmay hbk
      by_cases hk0 : k = 0
      · have hk2 : decide (0 < k) = false := decide_eq_false (by omega)
        have hk3 : decide ((0 : Int) < (k : Int)) = false := decide_eq_false (by omega)
        clear hB hk0
        go_wp2_with fail
        rw [← hw1.out]
        refine wp_region_noPanic ?_
        refine wp_region_held_drew (S := fun w' => w'.cell? ⟨wr.heap.size, 0, none⟩ = some (.int .i64 x) ∧ w'.cell? ⟨wr.heap.size, 1, none⟩ = some (.int .i64 y) ∧ w'.cell? ⟨wr.heap.size, 2, none⟩ = some (.int .i64 z)) (by kernel_rfl) (⟨q0, q1, q2⟩) (fun hHeld => ?_)
        refine wpAnyH_take (i := 0) (v := ?_) (takeL rfl) (by kernel_rfl) (by kernel_rfl) (by kernel_rfl) (fun _ _ _ h => h) (Or.inl ⟨by rfl, ?_⟩) (by assumption) ?_
        rotate_left
        · (intro w hSw; (try dsimp only at hSw); first | (go_simp; done) | (go_simp; with_reducible rfl))
        try simp only [Act.put, List.setIfInBounds_toArray, List.set_cons_zero, List.set_cons_succ]
        refine wpAnyH_ready (rs := [1]) (by kernel_rfl) (by simp) ?_
        refine AllReadyH.cons (takeL rfl) (fun K hK => ?_) AllReadyH.nil
        go_simp
        refine (HM.out _).mono ?_; rintro e w2 ⟨rfl, rfl⟩
        go_wp2_with fail
        refine hK.out _ _ (⟨cell_al (cell_dr q0), cell_al (cell_dr q1), cell_al (cell_dr q2)⟩) (fun hHeld => ?_)
        clear hK K
        refine wpAnyH_take (i := 2) (v := ?_) (takeL rfl) (by kernel_rfl) (by kernel_rfl) (by kernel_rfl) (fun _ _ _ h => h) (Or.inl ⟨by rfl, ?_⟩) (by assumption) ?_
        rotate_left
        · (intro w hSw; (try dsimp only at hSw); first | (go_simp; done) | (go_simp; with_reducible rfl))
        try simp only [Act.put, List.setIfInBounds_toArray, List.set_cons_zero, List.set_cons_succ]
        refine wpAnyH_take (i := 3) (v := ?_) (takeL rfl) (by kernel_rfl) (by kernel_rfl) (by kernel_rfl) (fun _ _ _ h => h) (Or.inl ⟨by rfl, ?_⟩) (by assumption) ?_
        rotate_left
        · (intro w hSw; (try dsimp only at hSw); first | (go_simp; done) | (go_simp; with_reducible rfl))
        try simp only [Act.put, List.setIfInBounds_toArray, List.set_cons_zero, List.set_cons_succ]
        refine wpAnyH_take (i := 4) (v := ?_) (takeL rfl) (by kernel_rfl) (by kernel_rfl) (by kernel_rfl) (fun _ _ _ h => h) (Or.inl ⟨by rfl, ?_⟩) (by assumption) ?_
        rotate_left
        · (intro w hSw; (try dsimp only at hSw); first | (go_simp; done) | (go_simp; with_reducible rfl))
        try simp only [Act.put, List.setIfInBounds_toArray, List.set_cons_zero, List.set_cons_succ]
        refine wpAnyH_take (i := 5) (v := ?_) (takeL rfl) (by kernel_rfl) (by kernel_rfl) (by kernel_rfl) (fun _ _ _ h => h) (Or.inl ⟨by rfl, ?_⟩) (by assumption) ?_
        rotate_left
        · (intro w hSw; (try dsimp only at hSw); first | (go_simp; done) | (go_simp; with_reducible rfl))
        try simp only [Act.put, List.setIfInBounds_toArray, List.set_cons_zero, List.set_cons_succ]
        refine wpAnyH_take (i := 6) (v := ?_) (takeL rfl) (by kernel_rfl) (by kernel_rfl) (by kernel_rfl) (fun _ _ _ h => h) (Or.inl ⟨by rfl, ?_⟩) (by assumption) ?_
        rotate_left
        · (intro w hSw; (try dsimp only at hSw); first | (go_simp; done) | (go_simp; with_reducible rfl))
        try simp only [Act.put, List.setIfInBounds_toArray, List.set_cons_zero, List.set_cons_succ]
        refine wpAnyH_take (i := 7) (v := undef) (takeL rfl) (by kernel_rfl) (by kernel_rfl) (by kernel_rfl) (fun _ _ _ h => h) (Or.inr ⟨by rfl, rfl⟩) (by assumption) ?_
        try simp only [Act.put, List.setIfInBounds_toArray, List.set_cons_zero, List.set_cons_succ]
        refine wpAnyH_take (i := 8) (v := undef) (takeL rfl) (by kernel_rfl) (by kernel_rfl) (by kernel_rfl) (fun _ _ _ h => h) (Or.inr ⟨by rfl, rfl⟩) (by assumption) ?_
        try simp only [Act.put, List.setIfInBounds_toArray, List.set_cons_zero, List.set_cons_succ]
        refine wpAnyH_take (i := 9) (v := undef) (takeL rfl) (by kernel_rfl) (by kernel_rfl) (by kernel_rfl) (fun _ _ _ h => h) (Or.inr ⟨by rfl, rfl⟩) (by assumption) ?_
        try simp only [Act.put, List.setIfInBounds_toArray, List.set_cons_zero, List.set_cons_succ]
        refine wpAnyH_take (i := 10) (v := undef) (takeL rfl) (by kernel_rfl) (by kernel_rfl) (by kernel_rfl) (fun _ _ _ h => h) (Or.inr ⟨by rfl, rfl⟩) (by assumption) ?_
        try simp only [Act.put, List.setIfInBounds_toArray, List.set_cons_zero, List.set_cons_succ]
        refine wpAnyH_take (i := 11) (v := undef) (takeL rfl) (by kernel_rfl) (by kernel_rfl) (by kernel_rfl) (fun _ _ _ h => h) (Or.inr ⟨by rfl, rfl⟩) (by assumption) ?_
        try simp only [Act.put, List.setIfInBounds_toArray, List.set_cons_zero, List.set_cons_succ]
        refine wpAnyH_take (i := 12) (v := undef) (takeL rfl) (by kernel_rfl) (by kernel_rfl) (by kernel_rfl) (fun _ _ _ h => h) (Or.inr ⟨by rfl, rfl⟩) (by assumption) ?_
        try simp only [Act.put, List.setIfInBounds_toArray, List.set_cons_zero, List.set_cons_succ]
        refine wpAnyH_take (i := 13) (v := undef) (takeL rfl) (by kernel_rfl) (by kernel_rfl) (by kernel_rfl) (fun _ _ _ h => h) (Or.inr ⟨by rfl, rfl⟩) (by assumption) ?_
        try simp only [Act.put, List.setIfInBounds_toArray, List.set_cons_zero, List.set_cons_succ]
        refine wpAnyH_take (i := 14) (v := undef) (takeL rfl) (by kernel_rfl) (by kernel_rfl) (by kernel_rfl) (fun _ _ _ h => h) (Or.inr ⟨by rfl, rfl⟩) (by assumption) ?_
        try simp only [Act.put, List.setIfInBounds_toArray, List.set_cons_zero, List.set_cons_succ]
        refine wpAnyH_take (i := 15) (v := undef) (takeL rfl) (by kernel_rfl) (by kernel_rfl) (by kernel_rfl) (fun _ _ _ h => h) (Or.inr ⟨by rfl, rfl⟩) (by assumption) ?_
        try simp only [Act.put, List.setIfInBounds_toArray, List.set_cons_zero, List.set_cons_succ]
        refine wpAnyH_take (i := 16) (v := ?_) (takeL rfl) (by kernel_rfl) (by kernel_rfl) (by kernel_rfl) (fun _ _ _ h => h) (Or.inl ⟨by rfl, ?_⟩) (by assumption) ?_
        rotate_left
        · (intro w hSw; (try dsimp only at hSw); first | (go_simp; done) | (go_simp; with_reducible rfl))
        try simp only [Act.put, List.setIfInBounds_toArray, List.set_cons_zero, List.set_cons_succ]
        refine wpAnyH_take (i := 17) (v := ?_) (takeL rfl) (by kernel_rfl) (by kernel_rfl) (by kernel_rfl) (fun _ _ _ h => h) (Or.inl ⟨by rfl, ?_⟩) (by assumption) ?_
        rotate_left
        · (intro w hSw; (try dsimp only at hSw); first | (go_simp; done) | (go_simp; with_reducible rfl))
        try simp only [Act.put, List.setIfInBounds_toArray, List.set_cons_zero, List.set_cons_succ]
        refine wpAnyH_done (by kernel_rfl) ?_ _
        refine NoPanic.normal ?_
        go_wp2_with fail
        go_roundw
        case rel => exact ⟨k + 1, by omega, by go_num, bNew (bDrew HB1.out) _⟩
        case measure => simp [intOf]; omega
      · obtain ⟨m, hm⟩ : ∃ m, k = m + 1 := ⟨k - 1, by omega⟩
        have hmk : m < k := by omega
        have hmn : m < n := by omega
        have hwm : IntKind.i64.wrap ((k : Int) - 1) = (m : Int) := by rw [IntKind.wrap_i64]; omega
        have hk1 : 0 < k := by omega
        have hk2 : decide (0 < k) = true := decide_eq_true hk1
        obtain ⟨b', off', x', y', z', hb', hbl', c0, c1, c2, hpm⟩ := HS.out.get m (by rw [← hn.out]; exact hmn)
        cases hb'
        have e0 : w1.cell? ⟨b, off + m * 3, none⟩ = some (.int .i64 x') := by rw [hw1.out]; exact cell_al ((hB.cell (p := ⟨b, off + m * 3, none⟩) hbl).trans c0)
        have hxx : x' < x := sortT_at HA.out.sort hmk hpm.out hpk.out
        have hge : decide (x' ≥ x) = false := decide_eq_false (by omega)
        have hge2 : decide (x ≤ x') = false := decide_eq_false (by omega)
        clear c0 c1 c2 hm hmk hB
        go_wp2_with fail
        rw [← hw1.out]
        go_region_held3 (fun w' => w'.cell? ⟨b, off + m * 3, none⟩ = some (.int .i64 x') ∧ w'.cell? ⟨wr.heap.size, 0, none⟩ = some (.int .i64 x) ∧ w'.cell? ⟨wr.heap.size, 1, none⟩ = some (.int .i64 y) ∧ w'.cell? ⟨wr.heap.size, 2, none⟩ = some (.int .i64 z))
          ((go_split_ands; refine ⟨?_, ?_, ?_, ?_⟩ <;> (repeat (first | with_reducible refine cell_al ?_ | with_reducible refine cell_dr ?_)) <;> with_reducible assumption))
          ((go_at_call 42; with_reducible (refine (HM.out _).mono ?_); rintro e w2 ⟨rfl, rfl⟩))
        go_wp2_with fail
        go_roundw
        case rel => exact ⟨k + 1, by omega, by go_num, bNew (bDrew HB1.out) _⟩
        case measure => simp [intOf]; omega
    · obtain rfl : k = n := by omega
      have HB := Lib.hid hB
      clear hB
      go_wp2_with fail
      go_ret
      exact ⟨rfl, HB.out⟩
end Go.Proofs.Ytpolhdkjkidpgaa
