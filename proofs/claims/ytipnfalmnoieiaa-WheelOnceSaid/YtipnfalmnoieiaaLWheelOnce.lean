/- WheelOnce: for every times and every steps the law returns true. -/
import Derived.Test.YtipnfalmnoieiaaWheelMany
import Derived.Outline
namespace Go.Proofs.Ytipnfalmnoieiaa
open Go.RowKit Go.Shelf Go.Lib Go.Sort Go.Maps

/-- The time of number i. -/
def tm (zs : List Int) (i : Nat) : Nat := (bits .and .i64 (zs[i]!) 63).toNat
theorem tm_is (zs : List Int) (i : Nat) : tm zs i ≤ 63 ∧ bits .and .i64 (zs[i]!) 63 = (tm zs i : Int) := by
  obtain ⟨K, h1, h2⟩ := and_mask (zs[i]!) 63 (by decide)
  have h3 : bits .and .i64 (zs[i]!) 63 = (K : Int) := h2
  have : tm zs i = K := by unfold tm; rw [h3]; simp
  rw [this]
  exact ⟨h1, h3⟩
def tms (zs : List Int) (n : Nat) : List (Int × Int) := (List.range n).map fun i => ((tm zs i : Int), (i : Int))
theorem tms_mem {zs : List Int} {n : Nat} {x : Int × Int} : x ∈ tms zs n ↔ ∃ i, i < n ∧ x = ((tm zs i : Int), (i : Int)) := by
  unfold tms
  rw [List.mem_map]
  constructor
  · rintro ⟨i, hi, rfl⟩; exact ⟨i, List.mem_range.1 hi, rfl⟩
  · rintro ⟨i, hi, rfl⟩; exact ⟨i, List.mem_range.2 hi, rfl⟩
theorem tms_set {zs : List Int} {L : List (Int × Int)} {n : Nat} (h : L.Perm (tms zs n)) : (setL L (tm zs n) n).Perm (tms zs (n + 1)) := by
  have hni : (n : Int) ∉ idsL L := fun e => by
    obtain ⟨x, hx, e2⟩ := List.mem_map.1 e
    obtain ⟨i, hi, rfl⟩ := tms_mem.1 (h.mem_iff.1 hx)
    simp at e2; omega
  refine (set_perm L _ _).trans ?_
  rw [out_none hni]
  unfold tms
  rw [List.range_succ, List.map_append]
  exact ((h.cons _).trans (List.perm_append_singleton _ _).symm)
theorem tms_len {zs : List Int} {L : List (Int × Int)} {n : Nat} (h : L.Perm (tms zs n)) : L.length = n := by rw [h.length_eq]; simp [tms]
/-- How many have a later time. -/
def lateN (zs : List Int) (c : Int) (n : Nat) : Nat := ((List.range n).filter fun i => !decide ((tm zs i : Int) ≤ c)).length
theorem late_len {zs : List Int} {L : List (Int × Int)} {n : Nat} (h : L.Perm (tms zs n)) (c : Int) : (restL L c).length = lateN zs c n := by
  have h1 : (restL L c).Perm (restL (tms zs n) c) := h.filter _
  rw [h1.length_eq]
  unfold restL tms lateN
  rw [List.filter_map, List.length_map]
  rfl
theorem lateN_succ (zs : List Int) (c : Int) (n : Nat) : lateN zs c (n + 1) = lateN zs c n + if (tm zs n : Int) ≤ c then 0 else 1 := by
  unfold lateN
  rw [List.range_succ, List.filter_append, List.length_append]
  by_cases h : (tm zs n : Int) ≤ c <;> simp [h]
theorem lateN_le (zs : List Int) (c : Int) (n : Nat) : lateN zs c n ≤ n := by
  unfold lateN
  have := List.length_filter_le (fun i => !decide ((tm zs i : Int) ≤ c)) (List.range n)
  rwa [List.length_range] at this
theorem rest_rest (L : List (Int × Int)) {a b : Int} (h : a ≤ b) : restL (restL L a) b = restL L b := by
  unfold restL
  rw [List.filter_filter]
  refine List.filter_congr fun x _ => ?_
  by_cases h1 : x.1 ≤ b
  · simp [h1]
  · have : ¬ x.1 ≤ a := by omega
    simp [h1, this]
/-- What is left behind a number of steps. -/
def leftL (L0 : List (Int × Int)) (started : Bool) (now : Nat) : List (Int × Int) := if started then restL L0 now else L0
theorem left_due {L0 : List (Int × Int)} {st : Bool} {now now' : Nat} (h : now ≤ now') : restL (leftL L0 st now) now' = leftL L0 true now' := by
  unfold leftL
  cases st
  · rfl
  · exact rest_rest L0 (by omega)
theorem left_mem {L0 : List (Int × Int)} {st : Bool} {now now' : Nat} {x : Int × Int} (h : x ∈ dueL (leftL L0 st now) now') : x ∈ L0 ∧ x.1 ≤ now' ∧ (st = true → ¬ x.1 ≤ now) := by
  have h1 := List.mem_filter.1 h
  have h3 : x.1 ≤ now' := by simpa using h1.2
  cases st
  · exact ⟨h1.1, h3, fun e => by cases e⟩
  · have h2 := List.mem_filter.1 (show x ∈ restL L0 now from h1.1)
    exact ⟨h2.1, h3, fun _ => by simpa using h2.2⟩
theorem mem_left {L0 : List (Int × Int)} {st : Bool} {now now' : Nat} {x : Int × Int} (h : x ∈ L0) (h1 : x.1 ≤ now') (h2 : st = true → ¬ x.1 ≤ now) : x ∈ dueL (leftL L0 st now) now' := by
  refine List.mem_filter.2 ⟨?_, by simpa using h1⟩
  cases st
  · exact h
  · exact List.mem_filter.2 ⟨h, by simpa using h2 rfl⟩

/-- Thirty marks. -/
def CameB (w : World) (b : Nat) (cm : Nat → Bool) : Prop := ∃ C, Blk w b C 33 ∧ C.size = 30 ∧ ∀ j, j < 30 → C[j]? = some (.bool (cm j))
theorem CameB.lt {w : World} {b : Nat} {cm : Nat → Bool} (h : CameB w b cm) : b < w.heap.size := by obtain ⟨_, h, _⟩ := h; exact h.lt
theorem CameB.cell {w : World} {b : Nat} {cm : Nat → Bool} (h : CameB w b cm) {j : Nat} (hj : j < 30) : w.cell? ⟨b, j, none⟩ = some (.bool (cm j)) ∧ w.frozen? ⟨b, j, none⟩ = false := by
  obtain ⟨C, h1, h2, h3⟩ := h
  exact ⟨by rw [h1.cell]; exact h3 j hj, h1.free j⟩
theorem CameB.kept {S : Nat → Prop} {w w' : World} {b : Nat} {cm : Nat → Bool} (h : CameB w b cm) (hk : KeptS S w w') (hb : ¬ S b) : CameB w' b cm := by
  obtain ⟨C, h1, h2⟩ := h
  exact ⟨C, hk.blk h1 hb, h2⟩
theorem CameB.set {w : World} {b : Nat} {cm : Nat → Bool} (h : CameB w b cm) {j : Nat} (hj : j < 30) : CameB (w.setCell ⟨b, j, none⟩ (.bool true)) b (fun i => if i = j then true else cm i) := by
  obtain ⟨C, h1, h2, h3⟩ := h
  refine ⟨_, h1.set j _, by simpa using h2, fun i hi => ?_⟩
  rw [Array.getElem?_setIfInBounds]
  by_cases e : j = i
  · subst e; rw [if_pos rfl, if_pos (by omega)]; simp
  · rw [if_neg e, h3 i hi]; simp [Ne.symm e]
theorem CameB.ext {w : World} {b : Nat} {cm cm' : Nat → Bool} (h : CameB w b cm) (he : ∀ j, j < 30 → cm j = cm' j) : CameB w b cm' := by
  obtain ⟨C, h1, h2, h3⟩ := h
  exact ⟨C, h1, h2, fun j hj => by rw [← he j hj]; exact h3 j hj⟩
theorem due_new (p : Nat) (F : Nat → Prop) (L D R : List (Int × Int)) (clk now C : Int) (n : Nat) (hC : Hid (dueC clk now = C)) (hD : Hid (dueL L C = D)) (hR : Hid (restL L C = R)) (hn : Hid (D.length = n)) (w0 w : World) (h : WB w0 w p F L clk) :
    Calls Try.prog 13 #[.pointer (some ⟨p, 0, none⟩), .int .i64 now] w fun e w' => (∃ ao cap, e = .returned (.slice ao n cap) ∧ SlP w' ao D ∧ ∀ a, ao = some a → w.heap.size ≤ a.block) ∧ WB w0 w' p F R C ∧ KeptS F w w' := by
  refine (due_any p F L clk now C hC w h.whl).mono ?_
  rintro e w' ⟨v, rfl, h1, h2, h3⟩
  rw [hD.out] at h1
  rw [hR.out] at h2
  refine ⟨?_, h.same h2 h3, h3⟩
  obtain ⟨ao, cap, rfl, hc, _, hs, hb⟩ := h1.sl
  rw [hn.out]
  exact ⟨ao, cap, rfl, hs, hb⟩

/-- How many are left of the first n. -/
def cntN (zs : List Int) (st : Bool) (now : Nat) (n : Nat) : Nat := if st then lateN zs now n else n
theorem cnt_le (zs : List Int) (st : Bool) (now n : Nat) : cntN zs st now n ≤ n := by
  unfold cntN
  split
  · exact lateN_le _ _ _
  · exact Nat.le_refl _
theorem cnt_len {zs : List Int} {L : List (Int × Int)} {n : Nat} (h : L.Perm (tms zs n)) (st : Bool) (now : Nat) : (leftL L st now).length = cntN zs st now n := by
  unfold leftL cntN
  cases st
  · exact tms_len h
  · exact late_len h now
theorem cnt_succ (zs : List Int) (st : Bool) (now n : Nat) : cntN zs st now (n + 1) = cntN zs st now n + if (st && decide (tm zs n ≤ now)) = true then 0 else 1 := by
  unfold cntN
  cases st
  · simp
  · simp only [if_true, Bool.true_and]
    rw [lateN_succ]
    by_cases h : tm zs n ≤ now
    · rw [if_pos (by omega), if_pos (decide_eq_true h)]
    · rw [if_neg (by omega), if_neg (by simpa using h)]
/-- How things stand ahead of a step. -/
structure OnceAt (w wr : World) (p : Nat) (F : Nat → Prop) (zs : List Int) (N : Nat) (L0 : List (Int × Int)) (bc : Nat) (st : Bool) (now : Nat) : Prop where
  wb : WB w wr p F (leftL L0 st now) now
  came : CameB wr bc (fun j => st && (decide (j < N) && decide (tm zs j ≤ now)))
  apart : ¬ F bc ∧ w.heap.size ≤ bc
/-- How things stand in the midst of a row that came up. -/
structure RowAt (w wr : World) (p : Nat) (F : Nat → Prop) (zs : List Int) (N : Nat) (L0 l : List (Int × Int)) (bc : Nat) (st : Bool) (now now' : Nat) (am : Option Addr) (k : Nat) : Prop where
  wb : WB w wr p F (leftL L0 true now') now'
  came : CameB wr bc (fun j => (st && (decide (j < N) && decide (tm zs j ≤ now))) || decide ((j : Int) ∈ idsL (l.take k)))
  sl : SlP wr am l ∧ ∀ a, am = some a → a.block ≠ bc

set_option maxRecDepth 100000 in
set_option maxHeartbeats 8000000 in
theorem wheelOnce_walk (ao : Option Addr) (zs : List Int) (len cap : Nat) (hl : zs.length = len) (hcm : len ≤ maxLen) (bo : Option Addr) (ss : List Int) (len2 cap2 : Nat) (hl2 : ss.length = len2) (hcm2 : len2 ≤ maxLen) (w : World) (hat : SlAt w ao (zs.map (Value.int .i64))) (hbt : SlAt w bo (ss.map (Value.int .i64))) :
    Calls Try.prog 4 #[.slice ao len cap, .slice bo len2 cap2] w fun e w' => e = .returned (.bool true) ∧ Below w.heap.size w w' := by
  unfold maxLen at hcm hcm2
  obtain ⟨N, hN⟩ := nm (min len 30)
  have hN30 : N ≤ 30 := by rw [hN.out]; omega
  obtain ⟨M, hM⟩ := nm (min len2 30)
  have hM30 : M ≤ 30 := by rw [hM.out]; omega
  have HL := Lib.hid hl
  have HL2 := Lib.hid hl2
  have HAT := Lib.hid hat
  have HBT := Lib.hid hbt
  clear hl hl2 hat hbt
  go_enter Try.func4, Try.ntmps4
  go_wp2_with fail
  refine (awake_any _).mono ?_; rintro e w1 ⟨rfl, hB⟩
  have HB1 := Lib.hid hB
  clear hB
  go_wp2_with fail
  refine (new_any _).mono ?_; rintro e w2 ⟨rfl, hW, hB⟩
  have H1 : Hid (WB w w2 w1.heap.size (fun k => k = w1.heap.size) [] 0) := ⟨hW, bNext HB1.out hB, fun k e => by rw [e]; exact HB1.out.size⟩
  obtain ⟨p, hp⟩ := nm w1.heap.size
  obtain ⟨F1, hF1⟩ := nm (fun k => k = w1.heap.size)
  rw [← hp.out]
  rw [← hF1.out, ← hp.out] at H1
  clear hW hB HB1
  go_upto_block 0 with fail
  go_cut [7] (fun nv wx => ∃ (F : Nat → Prop) (L : List (Int × Int)), nv = .int .i64 (N : Int) ∧ WB w wx p F L 0 ∧ L.Perm (tms zs N))
  case first =>
    go_wp2_with fail
    go_loopw [7, 8] (fun nv iv wr => ∃ (k : Nat) (F : Nat → Prop) (L : List (Int × Int)), k ≤ N ∧ nv = .int .i64 (k : Int) ∧ iv = .int .i64 (k : Int) ∧ WB w wr p F L 0 ∧ L.Perm (tms zs k)) (fun _ iv _ => N - (intOf iv).toNat)
    case atStart => exact ⟨0, F1, [], by omega, rfl, rfl, H1.out, List.Perm.refl _⟩
    case round =>
      obtain ⟨k, F, L, hk, rfl, rfl, hW, hL⟩ := hrel
      have HW := Lib.hid hW
      have HLL := Lib.hid hL
      clear hW hL
      by_cases hlt : k < N
      · have hkl : k < len := by have := hN.out; omega
        have hk30 : k < 30 := by omega
        obtain ⟨b, off, rfl, hbl, c0⟩ := SlAt.int' HAT.out k (by rw [HL.out]; exact hkl)
        obtain ⟨z, hz⟩ := nm (zs[k]'(by rw [HL.out]; exact hkl))
        rw [← hz.out] at c0
        have d0 : wr.cell? ⟨b, off + k, none⟩ = some (.int .i64 z) := (HW.out.below.cell (p := ⟨b, off + k, none⟩) hbl).trans c0
        obtain ⟨T, hT⟩ := nm (tm zs k)
        obtain ⟨hT1, hT3⟩ := tm_is zs k
        rw [getElem!_pos zs k (by rw [HL.out]; exact hkl), ← hz.out, ← hT.out] at hT3
        rw [← hT.out] at hT1
        have hwk : (Lit.int .i64 (k : Int)).wf = true := WalkArith.wf_i64 ⟨by omega, by omega⟩
        have hS := set_is p F L (setL L T k) 0 T k hwk (by omega) (by omega) (.inr (by rw [tms_len HLL.out]; omega)) rfl w
        have HS := Lib.hid hS
        have hL2 : Hid ((setL L T k).Perm (tms zs (k + 1))) := by show List.Perm _ _; rw [hT.out]; exact tms_set HLL.out
        clear hS hwk c0
        go_wp2_with fail
        refine (HS.out _ HW.out).mono ?_; rintro e w3 ⟨rfl, F3, hH, hk3, hf3⟩
        have HH := Lib.hid hH
        clear hH hk3 hf3 d0
        go_wp2_with fail
        go_roundw
        case rel => exact ⟨k + 1, F3, _, by omega, by go_num, by go_num, HH.out, hL2.out⟩
        case measure => simp [intOf]; omega
      · obtain rfl : k = N := by omega
        rcases Nat.lt_or_ge k len with hkl | hkl
        · have hk20 : decide (k < 30) = false := decide_eq_false (by have := hN.out; omega)
          have hk20i : decide ((k : Int) < 30) = false := decide_eq_false (by have := hN.out; omega)
          go_wp2_with fail
          go_meet
          exact ⟨F, L, rfl, HW.out, HLL.out⟩
        · have hkd : decide (k < len) = false := decide_eq_false (by omega)
          go_wp2_with fail
          go_meet
          exact ⟨F, L, rfl, HW.out, HLL.out⟩
  obtain ⟨F, L0, rfl, hW, hL⟩ := hcut
  have HW := Lib.hid hW
  have HLL := Lib.hid hL
  clear hW hL
  go_upto_region 13 with fail
  have hcame : Hid (CameB (wc.alloc (.cells #[.bool false, .bool false, .bool false, .bool false, .bool false, .bool false, .bool false, .bool false, .bool false, .bool false, .bool false, .bool false, .bool false, .bool false, .bool false, .bool false, .bool false, .bool false, .bool false, .bool false, .bool false, .bool false, .bool false, .bool false, .bool false, .bool false, .bool false, .bool false, .bool false, .bool false] 33)) wc.heap.size (fun _ => false)) := by
    refine ⟨_, Blk.new _ _ _, rfl, fun j hj => ?_⟩
    show (Array.replicate 30 (Value.bool false))[j]? = _
    simp [hj]
  have HW2 := Lib.hid (HW.out.more (bOld (w := wc) (.cells #[.bool false, .bool false, .bool false, .bool false, .bool false, .bool false, .bool false, .bool false, .bool false, .bool false, .bool false, .bool false, .bool false, .bool false, .bool false, .bool false, .bool false, .bool false, .bool false, .bool false, .bool false, .bool false, .bool false, .bool false, .bool false, .bool false, .bool false, .bool false, .bool false, .bool false] 33)))
  obtain ⟨wa, hwa⟩ := nm (wc.alloc (.cells #[.bool false, .bool false, .bool false, .bool false, .bool false, .bool false, .bool false, .bool false, .bool false, .bool false, .bool false, .bool false, .bool false, .bool false, .bool false, .bool false, .bool false, .bool false, .bool false, .bool false, .bool false, .bool false, .bool false, .bool false, .bool false, .bool false, .bool false, .bool false, .bool false, .bool false] 33))
  obtain ⟨bc, hbc⟩ := nm wc.heap.size
  rw [← hwa.out, ← hbc.out] at hcame
  rw [← hwa.out] at HW2
  rw [← hwa.out, ← hbc.out]
  have H2 : Hid (OnceAt w wa p F zs N L0 bc false 0) := by
    refine ⟨HW2.out, hcame.out.ext fun j _ => by simp, fun e => ?_, by rw [hbc.out]; exact HW.out.below.size⟩
    have := HW.out.whl.lt _ e
    have := hbc.out
    omega
  clear hcame hwa hbc HW2
  have HN0 : Hid ((idsL L0).Nodup ∧ Asc L0) := ⟨HW.out.whl.nodup, HW.out.whl.asc⟩
  clear HW
  go_upto_block 2 with fail
  go_cut [10] (fun nv wx => ∃ (now : Nat) (st : Bool), nv = .int .i64 (now : Int) ∧ Hid (st = decide (0 < len2)) ∧ now ≤ 210 ∧ OnceAt w wx p F zs N L0 bc st now)
  case first =>
    go_wp2_with fail
    go_loopw [10, 11] (fun nv iv wr => ∃ (i now : Nat), i ≤ M ∧ nv = .int .i64 (now : Int) ∧ iv = .int .i64 (i : Int) ∧ now ≤ 7 * i ∧ OnceAt w wr p F zs N L0 bc (decide (0 < i)) now) (fun _ iv _ => M - (intOf iv).toNat)
    case atStart => exact ⟨0, 0, by omega, rfl, rfl, by omega, H2.out⟩
    case round =>
      obtain ⟨i, now, hi, rfl, rfl, hnow, hO⟩ := hrel
      have HO := Lib.hid hO
      clear hO
      by_cases hlt : i < M
      · have hil : i < len2 := by have := hM.out; omega
        have hi30 : i < 30 := by omega
        obtain ⟨b, off, rfl, hbl, c0⟩ := SlAt.int' HBT.out i (by rw [HL2.out]; exact hil)
        obtain ⟨z, hz⟩ := nm (ss[i]'(by rw [HL2.out]; exact hil))
        rw [← hz.out] at c0
        have d0 : wr.cell? ⟨b, off + i, none⟩ = some (.int .i64 z) := (HO.out.wb.below.cell (p := ⟨b, off + i, none⟩) hbl).trans c0
        obtain ⟨S, hS1, hS2⟩ := and_mask z 7 (by decide)
        have hS3 : bits .and .i64 z 7 = (S : Int) := hS2
        obtain ⟨now', hnow'⟩ := nm (now + S)
        have hsum : (now : Int) + (S : Int) = (now' : Int) := by rw [hnow'.out]; simp
        have hnn : now ≤ now' := by rw [hnow'.out]; omega
        have hn2 : now' ≤ 7 * i + 7 := by rw [hnow'.out]; omega
        obtain ⟨st, hst⟩ := nm (decide (0 < i))
        rw [← hst.out] at HO
        have hC : Hid (dueC (now : Int) (now' : Int) = (now' : Int)) := by show _ = _; unfold dueC; rw [if_pos (by omega)]; omega
        obtain ⟨l, hl⟩ := nm (dueL (leftL L0 st now) now')
        obtain ⟨D, hD⟩ := nm l.length
        have hleft : (leftL L0 st now).Sublist L0 := by
          unfold leftL
          cases st
          · exact List.Sublist.refl _
          · exact List.filter_sublist
        have hlsub : l.Sublist L0 := by rw [hl.out]; exact List.filter_sublist.trans hleft
        have HNL : Hid ((idsL l).Nodup) := (hlsub.map _).nodup HN0.out.1
        have HAL : Hid (Asc l) := HN0.out.2.sublist hlsub
        have hD30 : D ≤ 30 := by
          rw [hD.out]
          have h1 := hlsub.length_le
          rw [tms_len HLL.out] at h1
          omega
        have HMEM : Hid (∀ (k : Nat) (x : Int × Int), l[k]? = some x → ∃ j, j < N ∧ x = ((tm zs j : Int), (j : Int)) ∧ tm zs j ≤ now' ∧ (st = true → ¬ tm zs j ≤ now)) := by
          intro k x hx
          have hm := List.mem_of_getElem? hx
          rw [hl.out] at hm
          obtain ⟨h1, h2, h3⟩ := left_mem hm
          obtain ⟨j, hj, rfl⟩ := tms_mem.1 (HLL.out.mem_iff.1 h1)
          exact ⟨j, hj, rfl, by simp only at h2; omega, fun e => by have := h3 e; simp only at this; omega⟩
        have HIN : Hid (∀ j, j < N → tm zs j ≤ now' → (st = true → ¬ tm zs j ≤ now) → (j : Int) ∈ idsL l) := by
          intro j hj h1 h2
          have hm : (((tm zs j : Int), (j : Int)) : Int × Int) ∈ l := by
            rw [hl.out]
            exact mem_left (HLL.out.mem_iff.2 (tms_mem.2 ⟨j, hj, rfl⟩)) (by simp only; omega) (fun e => by have := h2 e; simp only; omega)
          exact List.mem_map.2 ⟨_, hm, rfl⟩
        have HBC : Hid (bc < wr.heap.size) := HO.out.came.lt
        clear c0 hS2 hleft hlsub
        go_wp2_with fail
        refine (due_new p F _ l (leftL L0 true now') now now' now' D hC (hidSymm hl) (left_due hnn) (hidSymm hD) w _ HO.out.wb).mono ?_; rintro e w3 ⟨⟨am, cm, rfl, hsl, hfr⟩, hW3, hk3⟩
        have HR0 : Hid (RowAt w w3 p F zs N L0 l bc st now now' am 0) := by
          refine ⟨hW3, (HO.out.came.kept hk3 HO.out.apart.1).ext fun j _ => by simp [idsL], hsl, fun a e => ?_⟩
          have := hfr a e
          have := HBC.out
          omega
        clear hsl hfr hW3 hk3 d0 hsum hC
        go_wp2_with fail
        go_loopw [14] (fun kv wx => ∃ k : Nat, k ≤ D ∧ kv = .int .i64 (k : Int) ∧ RowAt w wx p F zs N L0 l bc st now now' am k) (fun kv _ => D - (intOf kv).toNat)
        case atStart => exact ⟨0, by omega, rfl, HR0.out⟩
        case round =>
          obtain ⟨k, hk, rfl, hR⟩ := hrel
          have HR := Lib.hid hR
          clear hR
          by_cases hlt2 : k < D
          · have hkl : k < l.length := by rw [← hD.out]; exact hlt2
            obtain ⟨b1, o1, rfl, hb1, h3⟩ := HR.out.sl.1 k hkl
            have hlk : l[k]? = some (l[k]'hkl) := List.getElem?_eq_getElem hkl
            obtain ⟨j, hjN, hx, hjle, hjst⟩ := HMEM.out k _ hlk
            rw [hx] at hlk
            obtain ⟨e0, e1⟩ := h3 k _ hlk
            obtain ⟨T, hT⟩ := nm (tm zs j)
            simp only [← hT.out] at e0 e1
            have hbne : b1 ≠ bc := HR.out.sl.2 _ rfl
            have hj30 : j < 30 := by omega
            have hjlen : j < len := by have := hN.out; omega
            obtain ⟨b2, o2, rfl, hb2, z0⟩ := SlAt.int' HAT.out j (by rw [HL.out]; exact hjlen)
            obtain ⟨z, hz⟩ := nm (zs[j]'(by rw [HL.out]; exact hjlen))
            rw [← hz.out] at z0
            have z1 : wr.cell? ⟨b2, o2 + j, none⟩ = some (.int .i64 z) := (HR.out.wb.below.cell (p := ⟨b2, o2 + j, none⟩) hb2).trans z0
            obtain ⟨hT1, hT3⟩ := tm_is zs j
            rw [getElem!_pos zs j (by rw [HL.out]; exact hjlen), ← hz.out, ← hT.out] at hT3
            rw [← hT.out] at hT1 hjle hjst
            have hnot : (j : Int) ∉ idsL (l.take k) := by
              intro hm
              have h1 : l = l.take k ++ l.drop k := (List.take_append_drop k l).symm
              have h2 := HNL.out
              rw [h1] at h2
              unfold idsL at h2
              rw [List.map_append] at h2
              have h4 : (j : Int) ∈ (l.drop k).map (fun x => x.2) := List.mem_map.2 ⟨_, List.mem_of_getElem? (i := 0) (by rw [List.getElem?_drop]; exact hlk), rfl⟩
              exact (List.nodup_append.1 h2).2.2 _ hm _ h4 rfl
            have hcm0 : (st && (decide (j < N) && decide (tm zs j ≤ now)) || decide ((j : Int) ∈ idsL (l.take k))) = false := by
              rw [decide_eq_false hnot]
              cases st
              · simp
              · have := hjst rfl
                simp only [Bool.true_and, Bool.or_false, Bool.and_eq_false_imp]
                intro _
                rw [← hT.out]
                exact decide_eq_false this
            obtain ⟨m0, m1⟩ := HR.out.came.cell hj30
            simp only [hcm0] at m0
            have hj0 : (0 : Int) ≤ (j : Int) := by omega
            have hj1 : (j : Int) < 30 := by omega
            have hj2 : (j : Int) < (len : Int) := by omega
            have hk0 : (0 : Int) ≤ (k : Int) := by omega
            have hk1 : (k : Int) < (D : Int) := by omega
            have f1 : decide ((j : Int) < 0) = false := decide_eq_false (by omega)
            have f2 : decide (N ≤ j) = false := decide_eq_false (by omega)
            have f3 : ((T : Int) != (T : Int)) = false := by simp
            have f4 : decide (now' < T) = false := decide_eq_false (by omega)
            have HHX := Lib.hid hx
            have HLK := Lib.hid hlk
            have HST := Lib.hid hjst
            have HBN := Lib.hid hbne
            clear h3 hx hcm0 hnot z0 hjst hbne hlk
            go_upto_region 24 with fail
            go_cut [121] (fun c wx => c = .bool false ∧ ∃ q, wx = wr.drewN q)
            case first =>
              cases st
              · have g1 : decide (0 < i) = false := hst.out.symm
                have g2 : ¬ 0 < i := by simpa using g1
                have g3 : decide ((0 : Int) < (i : Int)) = false := decide_eq_false (by omega)
                clear g2
                go_quiet (fail)
                go_wp2_with fail
                go_meet
                exact ⟨rfl, _, rfl⟩
              · have g1 : decide (0 < i) = true := hst.out.symm
                have g2 : 0 < i := by simpa using g1
                have g3 : decide ((0 : Int) < (i : Int)) = true := decide_eq_true (by omega)
                have g4 : ¬ T ≤ now := HST.out rfl
                have g5 : decide (T ≤ now) = false := decide_eq_false g4
                clear g4
                go_quiet (fail)
                go_wp2_with fail
                go_meet
                exact ⟨rfl, _, rfl⟩
            obtain ⟨rfl, q, rfl⟩ := hcut
            clear e0 e1 z1 m0 m1
            have HRQ : Hid (RowAt w (wr.drewN q) p F zs N L0 l bc st now now' (some ⟨b1, o1, none⟩) k) := by
              have K : KeptS (fun _ => False) wr (wr.drewN q) := (KeptS.refl _ _).drewN q
              exact ⟨HR.out.wb.more (below_drewN (Below.refl _ _) q), HR.out.came.kept K fun h => h, HR.out.sl.1.keptS K (fun _ _ h => h), HR.out.sl.2⟩
            obtain ⟨wq, hwq⟩ := nm (wr.drewN q)
            rw [← hwq.out] at HRQ
            rw [← hwq.out]
            obtain ⟨m0, m1⟩ := HRQ.out.came.cell hj30
            have HR7 : Hid (RowAt w (wq.setCell ⟨bc, j, none⟩ (.bool true)) p F zs N L0 l bc st now now' (some ⟨b1, o1, none⟩) (k + 1)) := by
              have K : KeptS (fun b => b = bc) wq (wq.setCell ⟨bc, j, none⟩ (.bool true)) := (KeptS.refl (fun b => b = bc) wq).set ⟨bc, j, none⟩ rfl _
              refine ⟨⟨HRQ.out.wb.whl.kept K fun k h1 h2 => HO.out.apart.1 (h2 ▸ h1), HRQ.out.wb.below.trans (K.below (fun b e => by rw [e]; exact HO.out.apart.2) HRQ.out.wb.below.size), HRQ.out.wb.base⟩, ?_, HRQ.out.sl.1.keptS K (fun a ha => by cases ha; exact HBN.out), HRQ.out.sl.2⟩
              refine (HRQ.out.came.set hj30).ext fun r hr => ?_
              have hsn : idsL (l.take (k + 1)) = idsL (l.take k) ++ [(j : Int)] := by
                have : l.take (k + 1) = l.take k ++ [((tm zs j : Int), (j : Int))] := take_snocP HLK.out
                unfold idsL
                rw [this, List.map_append]; rfl
              rw [hsn]
              by_cases er : r = j
              · subst er; simp
              · simp only [if_neg er, List.mem_append, List.mem_singleton]
                congr 1
                refine decide_eq_decide.2 ⟨fun h => .inl h, fun h => ?_⟩
                rcases h with h | h
                · exact h
                · omega
            go_upto_region 27 with fail
            obtain ⟨w7, hw7⟩ := nm (wq.setCell ⟨bc, j, none⟩ (.bool true))
            rw [← hw7.out] at HR7
            rw [← hw7.out]
            obtain ⟨b3, o3, he3, hb3, h3⟩ := HR7.out.sl.1 k hkl
            obtain ⟨rfl, rfl⟩ : b1 = b3 ∧ o1 = o3 := by simpa using he3
            obtain ⟨e0, e1⟩ := h3 k _ HLK.out
            simp only [← hT.out] at e0 e1
            clear m0 m1 he3 f1 f2 f3 f4 hT3 hb1
            by_cases hkp : 0 < k
            · have hkd : decide (0 < k) = true := decide_eq_true hkp
              have hkl1 : k - 1 < l.length := by omega
              have hpk : l[k - 1]? = some (l[k - 1]'hkl1) := List.getElem?_eq_getElem hkl1
              have hlt9 : ltP (l[k - 1]'hkl1) (l[k]'hkl) := (List.pairwise_iff_getElem.1 HAL.out) (k - 1) k hkl1 hkl (by omega)
              rw [HHX.out, ← hT.out] at hlt9
              obtain ⟨y, hy⟩ := nm (l[k - 1]'hkl1)
              rw [← hy.out] at hpk hlt9
              obtain ⟨u1, u2⟩ := y
              obtain ⟨c0, c1⟩ := h3 (k - 1) _ hpk
              simp only at c0 c1
              have hi1 : IntKind.i64.wrap ((k : Int) - 1) = ((k - 1 : Nat) : Int) := by rw [IntWalk.i64_in _ (by omega)]; omega
              obtain ⟨r, hr⟩ := nm (k - 1)
              have hrD : r < D := by rw [hr.out]; omega
              have hr0 : (0 : Int) ≤ (r : Int) := by omega
              have hr1 : (r : Int) < (D : Int) := by omega
              rw [← hr.out] at c0 c1 hi1
              clear h3 hpk hy hkl1 hkp
              rcases hlt9 with h | ⟨h, h2⟩
              · simp only at h
                have t1 : decide ((T : Int) < u1) = false := decide_eq_false (by omega)
                have t2 : (u1 == (T : Int)) = false := by simp; omega
                go_quiet (fail)
                go_wp2_with fail
                have HR8 : RowAt w (w7.drewN nq) p F zs N L0 l bc st now now' (some ⟨b1, o1, none⟩) (k + 1) := by
                  have K : KeptS (fun _ => False) w7 (w7.drewN nq) := (KeptS.refl _ _).drewN nq
                  exact ⟨HR7.out.wb.more (below_drewN (Below.refl _ _) nq), HR7.out.came.kept K fun h => h, HR7.out.sl.1.keptS K (fun _ _ h => h), HR7.out.sl.2⟩
                go_roundw
                case rel => exact ⟨k + 1, by omega, by go_num, HR8⟩
                case measure => simp [intOf]; omega
              · simp only at h h2
                subst h
                have t1 : decide ((T : Int) < (T : Int)) = false := by simp
                have t2 : ((T : Int) == (T : Int)) = true := by simp
                have t3 : decide ((j : Int) ≤ u2) = false := decide_eq_false (by omega)
                go_quiet (fail)
                go_wp2_with fail
                have HR8 : RowAt w (w7.drewN nq) p F zs N L0 l bc st now now' (some ⟨b1, o1, none⟩) (k + 1) := by
                  have K : KeptS (fun _ => False) w7 (w7.drewN nq) := (KeptS.refl _ _).drewN nq
                  exact ⟨HR7.out.wb.more (below_drewN (Below.refl _ _) nq), HR7.out.came.kept K fun h => h, HR7.out.sl.1.keptS K (fun _ _ h => h), HR7.out.sl.2⟩
                go_roundw
                case rel => exact ⟨k + 1, by omega, by go_num, HR8⟩
                case measure => simp [intOf]; omega
            · have hkd : decide (0 < k) = false := decide_eq_false hkp
              have hkdi : decide ((0 : Int) < (k : Int)) = false := decide_eq_false (by omega)
              clear h3 hkp
              go_quiet (fail)
              go_wp2_with fail
              have HR8 : RowAt w (w7.drewN nq) p F zs N L0 l bc st now now' (some ⟨b1, o1, none⟩) (k + 1) := by
                have K : KeptS (fun _ => False) w7 (w7.drewN nq) := (KeptS.refl _ _).drewN nq
                exact ⟨HR7.out.wb.more (below_drewN (Below.refl _ _) nq), HR7.out.came.kept K fun h => h, HR7.out.sl.1.keptS K (fun _ _ h => h), HR7.out.sl.2⟩
              go_roundw
              case rel => exact ⟨k + 1, by omega, by go_num, HR8⟩
              case measure => simp [intOf]; omega
          · obtain rfl : k = D := by omega
            have HO2 : Hid (OnceAt w wr p F zs N L0 bc (decide (0 < i + 1)) now') := by
              have ht : l.take k = l := List.take_of_length_le (by rw [← hD.out]; exact Nat.le_refl _)
              rw [show decide (0 < i + 1) = true from decide_eq_true (by omega)]
              refine ⟨HR.out.wb, HR.out.came.ext fun j _ => ?_, HO.out.apart⟩
              rw [ht, Bool.eq_iff_iff]
              simp only [Bool.or_eq_true, Bool.and_eq_true, decide_eq_true_eq, Bool.true_and]
              constructor
              · rintro (⟨h1, h2, h3⟩ | h1)
                · exact ⟨h2, by omega⟩
                · obtain ⟨x, hx, e⟩ := List.mem_map.1 h1
                  obtain ⟨r, hr, e2⟩ := List.mem_iff_getElem.1 hx
                  obtain ⟨j', h2, h3, h4, _⟩ := HMEM.out r x (by rw [List.getElem?_eq_getElem hr, e2])
                  rw [h3] at e
                  simp only at e
                  obtain rfl : j' = j := by omega
                  exact ⟨h2, h4⟩
              · rintro ⟨h1, h2⟩
                by_cases h3 : st = true ∧ tm zs j ≤ now
                · exact .inl ⟨h3.1, h1, h3.2⟩
                · exact .inr (HIN.out j h1 h2 fun e h4 => h3 ⟨e, h4⟩)
            go_wp2_with fail
            go_roundw
            case rel => exact ⟨i + 1, now', by omega, rfl, by go_num, by omega, HO2.out⟩
            case measure => simp [intOf]; omega
      · obtain rfl : i = M := by omega
        have HST : Hid (decide (0 < i) = decide (0 < len2)) := by show _ = _; exact decide_eq_decide.2 (by have := hM.out; omega)
        rcases Nat.lt_or_ge i len2 with hkl | hkl
        · have hk20 : decide (i < 30) = false := decide_eq_false (by have := hM.out; omega)
          have hk20i : decide ((i : Int) < 30) = false := decide_eq_false (by have := hM.out; omega)
          go_wp2_with fail
          go_meet
          exact ⟨now, _, rfl, HST.out, by omega, HO.out⟩
        · have hkd : decide (i < len2) = false := decide_eq_false (by omega)
          go_wp2_with fail
          go_meet
          exact ⟨now, _, rfl, HST.out, by omega, HO.out⟩
  obtain ⟨now, st, rfl, hst, hnow, hO⟩ := hcut
  have HO := Lib.hid hO
  clear hO
  go_wp2_with fail
  go_loop [16, 17] (fun lv kv => ∃ k c : Nat, k ≤ N ∧ kv = .int .i64 (k : Int) ∧ lv = .int .i64 (c : Int) ∧ Hid (c = cntN zs st now k) ∧ c ≤ 30) (fun _ kv => N - (intOf kv).toNat)
  case atStart => exact ⟨0, 0, by omega, rfl, rfl, by show _ = _; cases st <;> rfl, by omega⟩
  case round =>
    obtain ⟨k, c, hk, rfl, rfl, hc, hc30⟩ := hrel
    by_cases hlt : k < N
    · have hk30 : k < 30 := by omega
      have hklen : k < len := by have := hN.out; omega
      obtain ⟨m0, m1⟩ := HO.out.came.cell hk30
      have hk0 : (0 : Int) ≤ (k : Int) := by omega
      have hk1 : (k : Int) < 30 := by omega
      have hcs := cnt_succ zs st now k
      have hcl := cnt_le zs st now (k + 1)
      obtain ⟨cm, hcm9⟩ := nm (st && decide (tm zs k ≤ now))
      have hm0 : (st && (decide (k < N) && decide (tm zs k ≤ now))) = cm := by rw [hcm9.out, decide_eq_true hlt, Bool.true_and]
      simp only [hm0] at m0
      rw [← hcm9.out, ← hc.out] at hcs
      clear hm0
      cases cm
      · have hcs2 : Hid (c + 1 = cntN zs st now (k + 1)) := by show _ = _; rw [hcs]; rfl
        have hc31 : c + 1 ≤ 30 := by have := hcs2.out; omega
        clear hcs hcl
        cases st
        · have g1 : decide (0 < len2) = false := hst.out.symm
          have g2 : ¬ 0 < len2 := by simpa using g1
          have g3 : decide ((0 : Int) < (len2 : Int)) = false := decide_eq_false (by omega)
          clear g2
          go_wp2_with fail
          go_round
          case rel => exact ⟨k + 1, c + 1, by omega, by go_num, by go_num, hcs2, hc31⟩
          case measure => simp [intOf]; omega
        · have g1 : decide (0 < len2) = true := hst.out.symm
          have g2 : 0 < len2 := by simpa using g1
          have g3 : decide ((0 : Int) < (len2 : Int)) = true := decide_eq_true (by omega)
          obtain ⟨b2, o2, rfl, hb2, z0⟩ := SlAt.int' HAT.out k (by rw [HL.out]; exact hklen)
          obtain ⟨z, hz⟩ := nm (zs[k]'(by rw [HL.out]; exact hklen))
          rw [← hz.out] at z0
          have z1 := (HO.out.wb.below.cell (p := ⟨b2, o2 + k, none⟩) hb2).trans z0
          obtain ⟨hT1, hT3⟩ := tm_is zs k
          obtain ⟨T, hT⟩ := nm (tm zs k)
          rw [getElem!_pos zs k (by rw [HL.out]; exact hklen), ← hz.out, ← hT.out] at hT3
          have g5 : decide (T ≤ now) = false := by
            have := hcm9.out
            rw [Bool.true_and, ← hT.out] at this
            exact this.symm
          have g6 : ¬ T ≤ now := by simpa using g5
          have g7 : decide ((T : Int) ≤ (now : Int)) = false := decide_eq_false (by omega)
          have hk2 : (k : Int) < (len : Int) := by omega
          clear z0 g6
          go_wp2_with fail
          go_round
          case rel => exact ⟨k + 1, c + 1, by omega, by go_num, by go_num, hcs2, hc31⟩
          case measure => simp [intOf]; omega
      · have hcs2 : Hid (c = cntN zs st now (k + 1)) := by show _ = _; rw [hcs]; rfl
        clear hcs hcl
        go_wp2_with fail
        go_round
        case rel => exact ⟨k + 1, c, by omega, by go_num, rfl, hcs2, hc30⟩
        case measure => simp [intOf]; omega
    · obtain rfl : k = N := by omega
      have hlen : Hid ((leftL L0 st now).length = c) := by show _ = _; rw [cnt_len HLL.out, hc.out]
      go_wp2_with fail
      refine (all_is p F (leftL L0 st now) c hlen now w _ HO.out.wb).mono ?_; rintro e w8 ⟨⟨a8, c8, rfl, hS8⟩, hB⟩
      have H8 := Lib.hid (HO.out.wb.more hB)
      have he : ((c : Int) == (c : Int)) = true := by simp
      clear hB hS8
      go_wp2_with fail
      go_ret
      exact ⟨rfl, H8.out.below⟩
namespace LWheelOnce
open Go.ChangeShapes Go.WideShapes Go.ChangeAt
open Go.ChangeMaps (open_string shut_string)

set_option maxRecDepth 100000 in
theorem contract (H : Type) (enc : TypeId × Value → H) (W : World) (base : Nat) (args : Array Value) (ds gs : List (DataW H)) (before : List MemPlace)
    (hval : ∀ (j : Nat) t v, Try.f4.params[j]? = some t → args[j]? = some v → Value.okWide Try.prog W .any base t v)
    (hW : DataW.Whole enc Try.prog Try.f4.params.toList Rows.wheelOnceSpec.vars false W args.toList ds gs before)
    (_hsz : (DataW.weightsEach Try.prog (Try.f4.params.toList ++ (OpenSpec.ofChange Rows.wheelOnceSpec).bare.plain.varTypes Try.prog) (ds ++ gs)).all (fun x => decide (x ≤ reachBytes)) = true) :
    Calls Try.prog 4 args W fun e W' => ∃ v, e = .returned v ∧ Rows.wheelOnceSpec.post enc Try.prog Try.f4 false true false false W args v W' := by
  have hW' := hW
  obtain ⟨p, q, hA0, hV, rfl, hfz, hnd⟩ := hW
  have hA : DataW.TrodAll enc Try.prog W 0 (fun _ => true) true Try.f4.params.toList args.toList ds p := hA0
  rw [Try.params4] at hA hval
  obtain ⟨v0, vs0, d0, ds0, p0, q0, hargs, rfl, rfl, h0, r0⟩ := trodAll_cons hA
  obtain ⟨v1, vs1, d1, ds1, p1, q1, rfl, rfl, rfl, h1, r1⟩ := trodAll_cons r0
  obtain ⟨rfl, rfl, rfl⟩ := trodAll_nil r1
  obtain rfl : args = #[v0, v1] := by cases args; simp_all
  obtain ⟨rfl, rfl⟩ := trodVars_none hV
  obtain ⟨ao0, len0, cap0, ss0, rfl, hl0, hlc0, hcm0, hat0, wf0⟩ := open_ints2 Try.underlying32 Try.underlying3 (show Try.prog.cellsOf 3 = 1 by kernel_rfl) h0 (okWide_slice Try.underlying32 (hval 0 32 v0 rfl rfl))
  obtain ⟨ao1, len1, cap1, ss1, rfl, hl1, hlc1, hcm1, hat1, wf1⟩ := open_ints2 Try.underlying32 Try.underlying3 (show Try.prog.cellsOf 3 = 1 by kernel_rfl) h1 (okWide_slice Try.underlying32 (hval 1 32 v1 rfl rfl))
  clear hA0
  refine (wheelOnce_walk ao0 ss0 len0 cap0 hl0 (Nat.le_trans hlc0 hcm0) ao1 ss1 len1 cap1 hl1 (Nat.le_trans hlc1 hcm1) W hat0 hat1).mono fun e W' ⟨he, hb⟩ => ?_
  subst he
  exact ⟨_, rfl, law_post laidOut Try.underlying4 rfl (by kernel_rfl) rfl rfl rfl rfl hW' hb⟩

theorem reads (os : Os) {H : Type} (enc : TypeId × Value → H) : ∃ places, DataW.whole enc Try.prog ((World.holding Try.prog os ⟨#[], #[], []⟩).forCall (fun _ _ => 0) ⟨#[], #[.slice none 0 0, .slice none 0 0], []⟩).memory Try.f4.params.toList Rows.wheelOnceSpec.vars false (#[.slice none 0 0, .slice none 0 0] : Array Value).toList 8 = some ([.nil, .nil], [], places) :=
  ⟨[], by kernel_rfl⟩
theorem laid_met (os : Os) : laidMet Try.prog Rows.wheelOnceRow.laid ((World.holding Try.prog os ⟨#[], #[], []⟩).forCall (fun _ _ => 0) ⟨#[], #[.slice none 0 0, .slice none 0 0], []⟩).memory :=
  laidMet_of_run' 8 (by kernel_rfl) (by kernel_rfl)

set_option maxRecDepth 100000 in
theorem lifted (os : Os) (started : os.Started) (H : Type) (enc : TypeId × Value → H) (F : Stop.Interp) :
    ReturnsInHanded {} Try.checked os 4 .any ((OpenSpec.ofChange Rows.wheelOnceSpec).preRow enc Try.prog Try.f4 Rows.wheelOnceRow.domain false Rows.wheelOnceRow.laid) (((OpenSpec.ofChange Rows.wheelOnceSpec).at F).post enc Try.prog Try.f4 false true false false) := by
  obtain ⟨places, hx⟩ := reads os enc
  refine returnsInHanded_of_row (C := Try.checked) (s := OpenSpec.ofChange Rows.wheelOnceSpec) own started (by kernel_rfl) Try.func4
    (witness_row_at (enc := enc) (C := Try.checked) false (World.holding Try.prog os ⟨#[], #[], []⟩) #[.slice none 0 0, .slice none 0 0] rfl (by kernel_rfl) (by kernel_rfl) (by kernel_rfl)
      (OpenSpec.preRow_of_cond 8 hx (by kernel_rfl) (fun k hk => by cases hk) (by kernel_rfl) (laid_met os))) ?_
  intro W base args ds gs before hval hW _ _ hsz hL _ _
  exact contract H enc W base args ds gs before hval hW hsz

theorem said : Rows.WheelOnceSaid :=
  OpenClaim.holds_of_cond 4 Try.f4 rfl rfl rfl rfl rfl rfl rfl ⟨rfl, rfl, rfl, rfl, rfl⟩ rfl rfl rfl rfl rfl (by kernel_rfl) Try.func4 (by kernel_rfl)
    (of_decide_eq_true (by kernel_rfl)) (by unfold Func.isWrapper; first | (rw [if_pos (by decide +kernel)]; kernel_rfl) | (rw [if_neg (by decide +kernel)]; exact ⟨rfl, rfl⟩))
    (fun os started H enc _ F => by rw [OpenClaim.pre_eq_preRow]; exact lifted os started H enc F)
end LWheelOnce
end Go.Proofs.Ytipnfalmnoieiaa
