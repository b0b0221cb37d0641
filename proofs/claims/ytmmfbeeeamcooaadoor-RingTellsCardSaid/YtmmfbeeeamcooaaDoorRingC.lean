/- The walks of layer ring: Owners, Owns; the document's small ones; the examples. -/
import Derived.Test.YtmmfbeeeamcooaaDoorRingB
import Derived.BigQuiet
import Derived.Deep.QuietTactic
import Derived.Outline
namespace Go.Proofs.YtmmfbeeeamcooaaDoor
open Go.RowKit Go.Shelf Go.Lib Go.Sort

set_option maxRecDepth 100000 in
set_option maxHeartbeats 1000000 in
theorem owners_any (ao : Option Addr) (ps : List (Int × Int)) (n cap : Nat) (hn : Hid (ps.length = n)) (hm : n ≤ 1000) (hwf : Hid (∀ p ∈ ps, (Lit.int .i64 p.2).wf = true)) (part z : Int) (_hz : z ≤ 9223372036854775807) (O : List Int) (J : Nat) (hO : Hid (orderL ps part = O)) (hJ : Hid (min z.toNat O.length = J)) (w : World) (hs : SlP w ao ps) :
    Calls Tryd.prog 9 #[.slice ao n cap, .int .i64 part, .int .i64 z] w fun e w' => ∃ ao' cap', e = .returned (.slice ao' J cap') ∧ J ≤ cap' ∧ SlAt w' ao' ((O.take J).map (Value.int .i64)) ∧ Below w.heap.size w w' := by
  obtain ⟨K, hK⟩ := nm O.length
  have hKn : K ≤ 1000 := by rw [hK.out, ← hO.out]; have := orderL_length ps part; rw [hn.out] at this; omega
  have hJK : J ≤ K := by rw [← hJ.out, hK.out]; omega
  have hmm : min (max z 0) (K : Int) = (J : Int) := by rw [← hJ.out, hK.out]; omega
  have HMM := Lib.hid hmm
  have HS := Lib.hid hs
  clear hmm hs
  go_enter Tryd.func9, Tryd.ntmps9
  go_wp2_with fail
  refine (order_any ao ps n cap hn hm hwf part O K hO (hidSymm hK) _ HS.out).mono ?_; rintro e w1 ⟨ao2, cap2, rfl, hc, hsl, hB⟩
  have HSL : Hid (SlAt w1 ao2 ((O.take J).map (Value.int .i64))) := by show SlAt _ _ _; rw [List.map_take]; exact hsl.take J
  have hJc : J ≤ cap2 := by omega
  have hmm := HMM.out
  clear hsl
  go_wp2_with fail
  go_ret
  exact ⟨ao2, cap2, rfl, hJc, HSL.out, hB⟩

set_option maxRecDepth 100000 in
set_option maxHeartbeats 1000000 in
theorem refhas_any (ao : Option Addr) (zs : List Int) (n cap : Nat) (hn : Hid (zs.length = n)) (hm : n ≤ 1000000) (v : Int) (r : Bool) (hr : Hid (r = decide (v ∈ zs))) (w : World) (hs : SlAt w ao (zs.map (Value.int .i64))) :
    Calls Tryd.prog 17 #[.slice ao n cap, .int .i64 v] w fun e w' => e = .returned (.bool r) ∧ w = w' := by
  have HS := Lib.hid hs
  clear hs
  go_enter Tryd.func17, Tryd.ntmps17
  go_wp2_with fail
  go_loop [5] (fun i => ∃ k : Nat, k ≤ n ∧ i = .int .i64 (k : Int) ∧ Hid (¬ v ∈ zs.take k)) (fun i => n - (intOf i).toNat)
  case atStart => exact ⟨0, by omega, rfl, by show ¬ _; simp⟩
  case round =>
    obtain ⟨k, hk, rfl, hI⟩ := hrel
    by_cases hlt : k < n
    · obtain ⟨b, off, rfl, hbl, d0⟩ := SlAt.int' HS.out k (by rw [hn.out]; exact hlt)
      have htk := List.take_succ_eq_append_getElem (l := zs) (i := k) (by rw [hn.out]; exact hlt)
      have hmem : zs[k]'(by rw [hn.out]; exact hlt) ∈ zs := List.getElem_mem _
      obtain ⟨x, hx⟩ := nm (zs[k]'(by rw [hn.out]; exact hlt))
      rw [← hx.out] at d0 htk hmem
      have HT := Lib.hid htk
      have HM := Lib.hid hmem
      clear htk hmem
      by_cases hxv : x = v
      · have hb : (x == v) = true := by simpa using hxv
        have HE : Hid (r = true) := by show _ = _; rw [hr.out]; exact decide_eq_true (hxv ▸ HM.out)
        clear hxv
        go_wp2_with fail
        go_ret
        rw [HE.out]
        exact ⟨rfl, rfl⟩
      · have hb : (x == v) = false := by simpa using hxv
        have HI : Hid (¬ v ∈ zs.take (k + 1)) := by
          show ¬ _
          rw [HT.out, List.mem_append]
          rintro (h | h)
          · exact hI.out h
          · exact hxv (List.mem_singleton.1 h).symm
        clear hxv
        go_wp2_with fail
        go_round
        case rel => exact ⟨k + 1, by omega, by go_num, HI⟩
        case measure => simp [intOf]; omega
    · obtain rfl : k = n := by omega
      have HE : Hid (r = false) := by
        show _ = _
        rw [hr.out]
        refine decide_eq_false ?_
        have := hI.out
        rwa [List.take_of_length_le (by rw [hn.out]; exact Nat.le_refl _)] at this
      go_wp2_with fail
      go_ret
      rw [HE.out]
      exact ⟨rfl, rfl⟩

set_option maxRecDepth 100000 in
set_option maxHeartbeats 1000000 in
theorem index_ints (ao : Option Addr) (zs : List Int) (n cap : Nat) (hn : Hid (zs.length = n)) (hm : n ≤ 1000000) (v : Int) (w : World) (hs : SlAt w ao (zs.map (Value.int .i64))) :
    Calls Tryd.prog 39 #[.slice ao n cap, .int .i64 v] w fun e w' => (∃ j : Int, e = .returned (.int .i64 j) ∧ ((j = -1 ∧ ¬ v ∈ zs) ∨ (0 ≤ j ∧ v ∈ zs))) ∧ w = w' := by
  have HS := Lib.hid hs
  clear hs
  go_enter Tryd.func39, Tryd.ntmps39
  go_wp2_with fail
  go_loop [8] (fun i => ∃ k : Nat, k ≤ n ∧ i = .int .i64 (k : Int) ∧ Hid (¬ v ∈ zs.take k)) (fun i => n - (intOf i).toNat)
  case atStart => exact ⟨0, by omega, rfl, by show ¬ _; simp⟩
  case round =>
    obtain ⟨k, hk, rfl, hI⟩ := hrel
    by_cases hlt : k < n
    · obtain ⟨b, off, rfl, hbl, d0⟩ := SlAt.int' HS.out k (by rw [hn.out]; exact hlt)
      have htk := List.take_succ_eq_append_getElem (l := zs) (i := k) (by rw [hn.out]; exact hlt)
      have hmem : zs[k]'(by rw [hn.out]; exact hlt) ∈ zs := List.getElem_mem _
      obtain ⟨x, hx⟩ := nm (zs[k]'(by rw [hn.out]; exact hlt))
      rw [← hx.out] at d0 htk hmem
      have HT := Lib.hid htk
      have HM := Lib.hid hmem
      clear htk hmem
      by_cases hxv : v = x
      · have hb : (v == x) = true := by simpa using hxv
        have HE : Hid (v ∈ zs) := by show _ ∈ _; rw [hxv]; exact HM.out
        clear hxv
        go_wp2_with fail
        go_ret
        exact ⟨⟨(k : Int), rfl, .inr ⟨by omega, HE.out⟩⟩, rfl⟩
      · have hb : (v == x) = false := by simpa using hxv
        have HI : Hid (¬ v ∈ zs.take (k + 1)) := by
          show ¬ _
          rw [HT.out, List.mem_append]
          rintro (h | h)
          · exact hI.out h
          · exact hxv (by simpa using h)
        clear hxv
        go_wp2_with fail
        go_round
        case rel => exact ⟨k + 1, by omega, by go_num, HI⟩
        case measure => simp [intOf]; omega
    · obtain rfl : k = n := by omega
      go_wp2_with fail
      go_ret
      refine ⟨⟨-1, rfl, .inl ⟨rfl, ?_⟩⟩, rfl⟩
      have := hI.out
      rwa [List.take_of_length_le (by rw [hn.out]; exact Nat.le_refl _)] at this

set_option maxRecDepth 100000 in
set_option maxHeartbeats 400000 in
theorem contains_any (ao : Option Addr) (zs : List Int) (n cap : Nat) (hn : Hid (zs.length = n)) (hm : n ≤ 1000000) (v : Int) (r : Bool) (hr : Hid (r = decide (v ∈ zs))) (w : World) (hs : SlAt w ao (zs.map (Value.int .i64))) :
    Calls Tryd.prog 33 #[.slice ao n cap, .int .i64 v] w fun e w' => e = .returned (.bool r) ∧ w = w' := by
  have HS := Lib.hid hs
  clear hs
  go_enter Tryd.func33, Tryd.ntmps33
  go_wp2_with fail
  refine (index_ints ao zs n cap hn hm v _ HS.out).mono ?_; rintro e w1 ⟨⟨j, rfl, hj⟩, rfl⟩
  have hd : decide (0 ≤ j) = r := by
    rw [hr.out]
    rcases hj with ⟨rfl, h⟩ | ⟨h0, h⟩
    · rw [decide_eq_false h]; decide
    · rw [decide_eq_true h, decide_eq_true h0]
  have HD := Lib.hid hd
  clear hj hd
  go_wp2_with fail
  go_ret
  exact ⟨congrArg (fun b => Ending.returned (Value.bool b)) HD.out, rfl⟩

set_option maxRecDepth 100000 in
set_option maxHeartbeats 400000 in
theorem owns_any (ao : Option Addr) (ps : List (Int × Int)) (n cap : Nat) (hn : Hid (ps.length = n)) (hm : n ≤ 1000) (hwf : Hid (∀ p ∈ ps, (Lit.int .i64 p.2).wf = true)) (part z v : Int) (hz : z ≤ 9223372036854775807) (O : List Int) (hO : Hid (orderL ps part = O)) (r : Bool) (hr : Hid (r = decide (v ∈ O.take (min z.toNat O.length)))) (w : World) (hs : SlP w ao ps) :
    Calls Tryd.prog 16 #[.slice ao n cap, .int .i64 part, .int .i64 z, .int .i64 v] w fun e w' => e = .returned (.bool r) ∧ Below w.heap.size w w' := by
  have HS := Lib.hid hs
  obtain ⟨J, hJ⟩ := nm (min z.toNat O.length)
  rw [← hJ.out] at hr
  have hJl : Hid ((O.take J).length = J) := by show _ = _; rw [List.length_take, hJ.out]; omega
  have hJ6 : J ≤ 1000000 := by
    have := orderL_length ps part
    rw [hn.out, hO.out] at this
    rw [hJ.out]; omega
  clear hs
  go_enter Tryd.func16, Tryd.ntmps16
  go_wp2_with fail
  refine (owners_any ao ps n cap hn hm hwf part z hz O J hO (hidSymm hJ) _ HS.out).mono ?_; rintro e w1 ⟨ao2, cap2, rfl, hc, hsl, hB⟩
  have HSL := Lib.hid hsl
  clear hsl
  go_wp2_with fail
  refine (contains_any ao2 (O.take J) J cap2 hJl hJ6 v r hr _ HSL.out).mono ?_; rintro e w2 ⟨rfl, rfl⟩
  go_wp2_with fail
  go_ret
  exact ⟨rfl, hB⟩

set_option maxRecDepth 100000 in
set_option maxHeartbeats 400000 in
theorem few_any (ao : Option Addr) (n cap : Nat) (hc : n ≤ cap) (w : World) :
    Calls Tryd.prog 7 #[.slice ao n cap] w fun e w' => e = .returned (.slice ao (min n 8) cap) ∧ w = w' := by
  by_cases h : 8 < n
  · rw [show min n 8 = 8 from by omega]
    go_enter Tryd.func7, Tryd.ntmps7
    go_wp2_with fail
    go_ret
    exact ⟨rfl, rfl⟩
  · rw [show min n 8 = n from by omega]
    go_enter Tryd.func7, Tryd.ntmps7
    go_wp2_with fail
    go_ret
    exact ⟨rfl, rfl⟩

theorem ex_ring : (ringL [7]).length = 4 := by decide +kernel
theorem ex_order : orderL (ringL [7]) 3 = [7] := by decide +kernel
/-- The nodes of a ring's spots. -/
theorem ringL_node {ids : List Int} {p : Int × Int} (h : p ∈ ringL ids) : p.2 ∈ ids := by
  unfold ringL at h
  rw [mem_sortD, List.mem_flatMap] at h
  obtain ⟨z, hz, hp⟩ := h
  simp only [spotsL, List.mem_cons, List.not_mem_nil, or_false] at hp
  rcases hp with rfl | rfl | rfl | rfl <;> exact hz

set_option maxRecDepth 100000 in
set_option maxHeartbeats 1000000 in
theorem awake_any (w : World) :
    Calls Tryd.prog 5 #[] w fun e w' => e = .returned (.bool true) ∧ Below w.heap.size w w' := by
  have hsl0 : SlAt (w.alloc (.cells #[.int .i64 7] 3)) (some ⟨w.heap.size, 0, none⟩) (([7] : List Int).map (Value.int .i64)) := by
    intro k hk
    refine ⟨w.heap.size, 0, rfl, by simp, fun j hj => ?_⟩
    obtain rfl : j = 0 := by simp at hj; omega
    exact (Blk.new w _ _).cell 0
  have H0 := Lib.hid hsl0
  have HB0 := Lib.hid (bOld (w := w) (.cells #[.int .i64 7] 3))
  clear hsl0
  go_enter Tryd.func5, Tryd.ntmps5
  go_wp2_with fail
  refine (new_any _ [7] 1 1 rfl (by decide) (ringL [7]) 4 rfl ex_ring _ H0.out).mono ?_; rintro e w1 ⟨ao, cap, rfl, hsl, hB1⟩
  have HS1 := Lib.hid hsl
  have HB1 := Lib.hid (bNext HB0.out hB1)
  have hwf : Hid (∀ p ∈ ringL [7], (Lit.int .i64 p.2).wf = true) := by
    intro p hp
    have := ringL_node hp
    rw [List.mem_singleton] at this
    rw [this]; decide
  clear hsl hB1
  go_wp2_with fail
  refine (owners_any ao (ringL [7]) 4 cap ex_ring (by decide) hwf 3 2 (by decide) [7] 1 ex_order rfl _ HS1.out).mono ?_; rintro e w2 ⟨ao2, cap2, rfl, hc2, hsl2, hB2⟩
  obtain ⟨b, off, rfl, hbl, d0⟩ := SlAt.int' (zs := [7]) hsl2 0 (by decide)
  have d1 : w2.cell? ⟨b, off, none⟩ = some (.int .i64 7) := d0
  have HB2 := Lib.hid (bNext HB1.out hB2)
  clear d0 hsl2 hB2
  go_wp2_with fail
  refine (majority_any 1 1 rfl (by decide) _).mono ?_; rintro e w3 ⟨rfl, rfl⟩
  go_wp2_with fail
  refine (majority_any 2 2 rfl (by decide) _).mono ?_; rintro e w3 ⟨rfl, rfl⟩
  go_wp2_with fail
  refine (majority_any 3 2 rfl (by decide) _).mono ?_; rintro e w3 ⟨rfl, rfl⟩
  go_wp2_with fail
  refine (majority_any 4 3 rfl (by decide) _).mono ?_; rintro e w3 ⟨rfl, rfl⟩
  go_wp2_with fail
  go_ret
  exact ⟨rfl, HB2.out⟩
end Go.Proofs.YtmmfbeeeamcooaaDoor
