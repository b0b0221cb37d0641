/- Walks of chapter 3's answers, of few and of Rises. -/
import Derived.Test.YthhcooabfgegaaaDotFind
import Derived.Test.YthhcooabfgegaaaPairEq
import Derived.BigQuiet
import Derived.Deep.QuietTactic
import Derived.Deep.AppendLies
import Derived.OwnWalk
import Derived.Outline
namespace Go.Proofs.Ythhcooabfgegaaa
open Go.RowKit Go.Shelf Go.Lib Go.Sort

theorem hidSymm {α : Type} {a b : α} (h : Hid (a = b)) : Hid (b = a) := h.out.symm
theorem less_is (x1 x2 y1 y2 : Int) (b : Bool) (hb : Hid (decide (ltP (x1, x2) (y1, y2)) = b)) (w : World) :
    Calls Try.prog 10 #[.agg #[.int .i64 x1, .int .i64 x2], .agg #[.int .i64 y1, .int .i64 y2]] w fun e w' => e = .returned (.bool b) ∧ Below w.heap.size w w' := by
  rw [← hb.out]; exact less_any x1 x2 y1 y2 w
theorem SlP.none_len {w : World} {ps : List (Int × Int)} (h : SlP w none ps) : ps.length = 0 := by
  rcases Nat.eq_zero_or_pos ps.length with h0 | h0
  · exact h0
  · obtain ⟨b, off, h1, _⟩ := h 0 h0; cases h1

set_option maxRecDepth 100000 in
set_option maxHeartbeats 400000 in
theorem few_any (ao : Option Addr) (ps : List (Int × Int)) (n cap : Nat) (hn : ps.length = n) (hc : n ≤ cap) (w : World) :
    Calls Try.prog 11 #[.slice ao n cap] w fun e w' => e = .returned (.slice ao (min n 30) cap) ∧ w = w' := by
  by_cases h : 30 < n
  · rw [show min n 30 = 30 from by omega]
    go_enter Try.func11, Try.ntmps11
    go_wp2_with fail
    go_ret
    exact ⟨rfl, rfl⟩
  · rw [show min n 30 = n from by omega]
    go_enter Try.func11, Try.ntmps11
    go_wp2_with fail
    go_ret
    exact ⟨rfl, rfl⟩

set_option maxRecDepth 100000 in
set_option maxHeartbeats 1000000 in
theorem has_any (ao : Option Addr) (ps : List (Int × Int)) (n cap : Nat) (hn : Hid (ps.length = n)) (hm : n ≤ 1000000000) (x y : Int) (w : World) (hs : SlP w ao ps) (r : Bool) (hr : Hid (r = decide ((x, y) ∈ ps))) :
    Calls Try.prog 14 #[.slice ao n cap, .agg #[.int .i64 x, .int .i64 y]] w fun e w' => e = .returned (.bool r) ∧ Below w.heap.size w w' := by
  have HS := Lib.hid hs
  clear hs
  have hb0 : Blk (w.alloc (.cells #[.int .i64 x, .int .i64 y] 23)) w.heap.size #[.int .i64 x, .int .i64 y] 23 := Blk.new _ _ _
  obtain ⟨w1, hw1⟩ := nm (w.alloc (.cells #[.int .i64 x, .int .i64 y] 23))
  rw [← hw1.out] at hb0
  have hB0 : Below w.heap.size w w1 := by rw [hw1.out]; exact bOld _
  obtain ⟨p, hp⟩ := nm w.heap.size
  rw [← hp.out] at hb0
  have b0 : w1.cell? ⟨p, 0, none⟩ = some (.int .i64 x) := hb0.cell 0
  have b1 : w1.cell? ⟨p, 1, none⟩ = some (.int .i64 y) := hb0.cell 1
  have HB0 := Lib.hid hB0
  clear hB0 hb0
  go_enter Try.func14, Try.ntmps14
  go_wp2_with fail
  rw [← hp.out, ← hw1.out]
  go_loopw [5] (fun i wr => ∃ k q : Nat, k ≤ n ∧ i = .int .i64 (k : Int) ∧ wr = w1.drewN q ∧ Hid (¬ (x, y) ∈ ps.take k)) (fun i _ => n - (intOf i).toNat)
  case atStart => exact ⟨0, 0, by omega, rfl, rfl, by show ¬ _; simp⟩
  case round =>
    obtain ⟨k, q, hk, rfl, rfl, hI⟩ := hrel
    by_cases hlt : k < n
    · obtain ⟨b, off, u, v, rfl, hbl, c0, c1, hpk⟩ := HS.out.get k (by rw [hn.out]; exact hlt)
      have d0 : w1.cell? ⟨b, off + k * 2, none⟩ = some (.int .i64 u) := (HB0.out.cell (p := ⟨b, off + k * 2, none⟩) hbl).trans c0
      have d1 : w1.cell? ⟨b, off + k * 2 + 1, none⟩ = some (.int .i64 v) := (HB0.out.cell (p := ⟨b, off + k * 2 + 1, none⟩) hbl).trans c1
      clear c0 c1
      obtain ⟨B, hBB⟩ := nm (decide ((u, v) = (x, y)))
      have heq := fun w => eqlD u v x y B hBB.out.symm w
      have hgd := fun (a b : Operand) (w : World) => guardD .eql a b #[.int .i64 u, .int .i64 v] #[.int .i64 x, .int .i64 y] w
      have htk : ps.take (k + 1) = ps.take k ++ [(u, v)] := by
        obtain ⟨g1, g2⟩ := get_of hpk.out
        rw [List.take_succ_eq_append_getElem g1]
        have := hpk.out
        rw [List.getElem?_eq_getElem g1] at this
        rw [Option.some.inj this]
      have HT := Lib.hid htk
      clear htk
      cases B
      · have HI : Hid (¬ (x, y) ∈ ps.take (k + 1)) := by
          show ¬ _
          rw [HT.out, List.mem_append]
          rintro (h | h)
          · exact hI.out h
          · have e : (x, y) = (u, v) := by simpa using h
            have := hBB.out
            rw [e] at this
            simp at this
        go_wp2_with fail
        go_quiet (fail)
        go_wp2_with fail
        go_roundw
        case rel => exact ⟨k + 1, q + nq, by omega, by go_num, rfl, HI⟩
        case measure => simp [intOf]; omega
      · have HE : Hid (r = true) := by
          show _ = _
          rw [hr.out]
          refine decide_eq_true ?_
          have e : (u, v) = (x, y) := by simpa using hBB.out.symm
          rw [← e]
          exact List.mem_of_getElem? hpk.out
        go_wp2_with fail
        go_quiet (fail)
        go_wp2_with fail
        go_ret
        rw [HE.out]
        exact ⟨rfl, below_drewN (below_drewN HB0.out _) _⟩
    · obtain rfl : k = n := by omega
      have HE : Hid (r = false) := by
        show _ = _
        rw [hr.out]
        refine decide_eq_false ?_
        have := hI.out
        rwa [List.take_of_length_le (by rw [hn.out]; exact Nat.le_refl _)] at this
      go_wp2_with fail
      go_ret
      rw [HE.out]
      exact ⟨rfl, below_drewN HB0.out q⟩

theorem take_snocP {ps : List (Int × Int)} {k : Nat} {p : Int × Int} (h : ps[k]? = some p) : ps.take (k + 1) = ps.take k ++ [p] := by
  obtain ⟨g1, _⟩ := get_of h
  rw [List.take_succ_eq_append_getElem g1]
  rw [List.getElem?_eq_getElem g1] at h
  rw [Option.some.inj h]

set_option maxRecDepth 100000 in
set_option maxHeartbeats 1000000 in
theorem same_any (a1 a2 : Option Addr) (c1 c2 n m : Nat) (xs ys : List (Int × Int)) (hx : Hid (xs.length = n)) (hy : Hid (ys.length = m)) (w : World) (hlen : n ≤ 1000000000) (h1 : SlP w a1 xs) (h2 : SlP w a2 ys) (r : Bool) (hr : Hid (r = decide (xs = ys))) :
    Calls Try.prog 17 #[.slice a1 n c1, .slice a2 m c2] w fun e w' => e = .returned (.bool r) ∧ ∃ q, w' = w.drewN q := by
  by_cases hmn : n = m
  rotate_left
  · have hne : r = false := by rw [hr.out]; exact decide_eq_false (by intro e; apply hmn; rw [← hx.out, ← hy.out, e])
    subst hne
    go_enter Try.func17, Try.ntmps17
    go_wp2_with fail
    go_ret
    exact ⟨rfl, 0, rfl⟩
  subst hmn
  have H1 := Lib.hid h1
  have H2 := Lib.hid h2
  clear h1 h2
  go_enter Try.func17, Try.ntmps17
  go_wp2_with fail
  go_loopw [5] (fun i wr => ∃ (k q : Nat), k ≤ n ∧ i = .int .i64 (k : Int) ∧ wr = w.drewN q ∧ Hid (xs.take k = ys.take k)) (fun i _ => n - (intOf i).toNat)
  case atStart => exact ⟨0, 0, by omega, rfl, rfl, Lib.hid (by simp)⟩
  case round =>
    obtain ⟨k, q, hk, rfl, rfl, ht⟩ := hrel
    by_cases hlt : k < n
    · obtain ⟨b1, o1, x1, x2, rfl, hb1, d1, d2, e1⟩ := H1.out.get k (by rw [hx.out]; exact hlt)
      obtain ⟨b2, o2, y1, y2, rfl, hb2, d3, d4, e2⟩ := H2.out.get k (by rw [hy.out]; exact hlt)
      obtain ⟨B, hBB⟩ := nm (decide ((x1, x2) = (y1, y2)))
      have heq := fun w => neqD x1 x2 y1 y2 B hBB.out.symm w
      have hgd := fun (a b : Operand) (w : World) => guardD .neq a b #[.int .i64 x1, .int .i64 x2] #[.int .i64 y1, .int .i64 y2] w
      cases B
      · have HE : Hid (r = false) := by
          show _ = _
          rw [hr.out]
          refine decide_eq_false fun e => ?_
          have h3 := e1.out
          rw [e, e2.out] at h3
          have h4 := Option.some.inj h3
          have := hBB.out
          rw [h4] at this
          simp at this
        go_wp2_with fail
        go_quiet (fail)
        go_wp2_with fail
        go_ret
        rw [HE.out]
        exact ⟨rfl, q + nq, by rw [World.drewN_drewN]⟩
      · have HT : Hid (xs.take (k + 1) = ys.take (k + 1)) := by
          show _ = _
          have e : (x1, x2) = (y1, y2) := by simpa using hBB.out.symm
          rw [take_snocP e1.out, take_snocP e2.out, ht.out, e]
        clear ht
        go_wp2_with fail
        go_quiet (fail)
        go_wp2_with fail
        go_roundw
        case rel => exact ⟨k + 1, q + nq, by omega, by go_num, rfl, HT⟩
        case measure => simp [intOf]; omega
    · obtain rfl : k = n := by omega
      have HE : Hid (r = true) := by
        show _ = _
        rw [hr.out]
        refine decide_eq_true ?_
        have e := ht.out
        rw [List.take_of_length_le (by rw [hx.out]; exact Nat.le_refl _), List.take_of_length_le (by rw [hy.out]; exact Nat.le_refl _)] at e
        exact e
      go_wp2_with fail
      go_ret
      rw [HE.out]
      exact ⟨rfl, q, rfl⟩

/-- A row rises, as far as it was looked at. -/
theorem asc_snoc {l : List (Int × Int)} {p q : Int × Int} (h : Asc (l ++ [p])) (hl : ltP p q) : Asc (l ++ [p] ++ [q]) := by
  refine List.pairwise_append.2 ⟨h, List.pairwise_singleton _ _, fun a ha b hb => ?_⟩
  obtain rfl : b = q := by simpa using hb
  rcases List.mem_append.1 ha with h2 | h2
  · exact ltP_trans ((List.pairwise_append.1 h).2.2 a h2 p (by simp)) hl
  · obtain rfl : a = p := by simpa using h2
    exact hl

set_option maxRecDepth 100000 in
set_option maxHeartbeats 1000000 in
theorem rises_any (ao : Option Addr) (ps : List (Int × Int)) (n cap : Nat) (hn : Hid (ps.length = n)) (hm : n ≤ 1000000000) (w : World) (hs : SlP w ao ps) (r : Bool) (hr : Hid (r = decide (Asc ps))) :
    Calls Try.prog 15 #[.slice ao n cap] w fun e w' => e = .returned (.bool r) ∧ Below w.heap.size w w' := by
  have HS := Lib.hid hs
  clear hs
  go_enter Try.func15, Try.ntmps15
  go_wp2_with fail
  go_loopw [7] (fun i wr => ∃ k : Nat, k ≤ n ∧ i = .int .i64 (k : Int) ∧ Below w.heap.size w wr ∧ Hid (Asc (ps.take k))) (fun i _ => n - (intOf i).toNat)
  case atStart => exact ⟨0, by omega, rfl, Below.refl _ _, by show Asc _; simp [Asc]⟩
  case round =>
    obtain ⟨k, hk, rfl, hB, hI⟩ := hrel
    by_cases hlt : k < n
    · obtain ⟨b, off, u, v, rfl, hbl, c0, c1, hpk⟩ := HS.out.get k (by rw [hn.out]; exact hlt)
      have d0 : wr.cell? ⟨b, off + k * 2, none⟩ = some (.int .i64 u) := (hB.cell (p := ⟨b, off + k * 2, none⟩) hbl).trans c0
      have d1 : wr.cell? ⟨b, off + k * 2 + 1, none⟩ = some (.int .i64 v) := (hB.cell (p := ⟨b, off + k * 2 + 1, none⟩) hbl).trans c1
      clear c0 c1
      by_cases hk0 : k = 0
      · subst hk0
        rw [Nat.zero_mul, Nat.add_zero] at d0 d1
        have HI : Hid (Asc (ps.take 1)) := by
          show Asc _
          rw [take_snocP hpk.out]
          simp [Asc]
        go_wp2_with fail
        go_quiet (fail)
        go_wp2_with fail
        go_roundw
        case rel => exact ⟨1, by omega, by go_num, below_drewN (bNew hB _) _, HI⟩
        case measure => simp [intOf]; omega
      · have hbs := hB.size
        obtain ⟨b', off', u1, v1, e', hbl', c2, c3, hpj⟩ := HS.out.get (k - 1) (by rw [hn.out]; omega)
        cases e'
        have d2 : wr.cell? ⟨b, off + (k - 1) * 2, none⟩ = some (.int .i64 u1) := (hB.cell (p := ⟨b, off + (k - 1) * 2, none⟩) hbl).trans c2
        have d3 : wr.cell? ⟨b, off + (k - 1) * 2 + 1, none⟩ = some (.int .i64 v1) := (hB.cell (p := ⟨b, off + (k - 1) * 2 + 1, none⟩) hbl).trans c3
        clear c2 c3
        have hblr : b < wr.heap.size := by omega
        obtain ⟨B, hBB⟩ := nm (decide (ltP (u1, v1) (u, v)))
        have hw1 : IntKind.i64.wrap ((k : Int) - 1) = ((k - 1 : Nat) : Int) := by rw [IntWalk.i64_in _ (by omega)]; omega
        have hw2 : k - 1 < n := by omega
        go_wp2_with fail
        have hkb : decide ((0 : Int) < (k : Int)) = true := by simp; omega
        have hkn : 0 < k := by omega
        refine wp_region_still_tail 9 (by kernel_rfl) (by kernel_rfl) ?_
        simp only [List.take_succ_cons, List.take_zero, List.drop_succ_cons, List.drop_zero]
        change wpStill _ _ (World.drew _) (fun a' => wpList _ _ _ _ a' (World.drew _)) _ _
        still_step
        still_step
        still_step
        still_step
        still_step
        still_step
        still_step
        still_step
        still_step
        refine wpStill_nil ?_
        clear d0 d1 d2 d3 hw1
        have hlen1 : k - 1 + 1 = k := by omega
        have htk : ps.take k = ps.take (k - 1) ++ [(u1, v1)] := by
          have := take_snocP hpj.out
          rwa [hlen1] at this
        have HTK := Lib.hid htk
        have HTS := Lib.hid (take_snocP hpk.out)
        clear htk hlen1
        cases B
        · have HE : Hid (r = false) := by
            show _ = _
            rw [hr.out]
            refine decide_eq_false fun ha => ?_
            obtain ⟨g1, g2⟩ := get_of hpk.out
            obtain ⟨g3, g4⟩ := get_of hpj.out
            have := asc_mono ha (show k - 1 < k by omega) g1
            rw [g2, g4] at this
            exact absurd this (by simpa using hBB.out.symm)
          go_wp2_with fail
          refine (less_is u1 v1 u v false (hidSymm hBB) _).mono ?_; rintro e w3 ⟨rfl, hB3⟩
          have hB4 : Below w.heap.size w w3 := (below_drewN (bNew hB (.cells #[.int .i64 u, .int .i64 v] 23)) 1).trans (hB3.mono (by simp; omega))
          go_wp2_with fail
          go_ret
          rw [HE.out]
          exact ⟨rfl, hB4⟩
        · have HI : Hid (Asc (ps.take (k + 1))) := by
            show Asc _
            rw [HTS.out, HTK.out]
            have h1 := hI.out
            rw [HTK.out] at h1
            exact asc_snoc h1 (by simpa using hBB.out.symm)
          go_wp2_with fail
          refine (less_is u1 v1 u v true (hidSymm hBB) _).mono ?_; rintro e w3 ⟨rfl, hB3⟩
          have hB4 : Below w.heap.size w w3 := (below_drewN (bNew hB (.cells #[.int .i64 u, .int .i64 v] 23)) 1).trans (hB3.mono (by simp; omega))
          go_wp2_with fail
          go_roundw
          case rel => exact ⟨k + 1, by omega, by go_num, hB4, HI⟩
          case measure => simp [intOf]; omega
    · obtain rfl : k = n := by omega
      have HE : Hid (r = true) := by
        show _ = _
        rw [hr.out]
        refine decide_eq_true ?_
        have := hI.out
        rwa [List.take_of_length_le (by rw [hn.out]; exact Nat.le_refl _)] at this
      go_wp2_with fail
      go_ret
      rw [HE.out]
      exact ⟨rfl, hB⟩
end Go.Proofs.Ythhcooabfgegaaa
