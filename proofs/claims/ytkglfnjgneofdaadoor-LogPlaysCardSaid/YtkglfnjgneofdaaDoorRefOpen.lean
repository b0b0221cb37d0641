/- The walk of the document's log: Open. -/
import Derived.Test.YtkglfnjgneofdaaDoorRefLog
import Derived.Test.YtkglfnjgneofdaaDoorRefCut
import Derived.BigQuiet
import Derived.Deep.QuietTactic
namespace Go.Proofs.YtkglfnjgneofdaaDoor
open Go.RowKit

theorem refall_is (s : ByteArray) (b : Nat) (v0 v1 : Value) (w0 w : World) (hw : w = w0.drew) (hs : s.size ≤ 1000000) (hb : b < w0.heap.size) (h0 : w0.cell? ⟨b, 0, none⟩ = some v0) (h1 : w0.cell? ⟨b, 1, none⟩ = some v1) :
    Calls Tryd.prog 12 #[.string s] w fun e w' => ∃ ao cap, e = .returned (.tuple #[.slice ao (allB s).length cap, .int .i64 ((allL (bl s)).2 : Nat)]) ∧ ((allB s).length ≤ cap ∧
      SlAt w' ao ((allB s).map Value.string) ∧ Below w0.heap.size w0 w' ∧ ∀ a, ao = some a → w0.heap.size ≤ a.block) ∧ w'.cell? ⟨b, 0, none⟩ = some v0 ∧ w'.cell? ⟨b, 1, none⟩ = some v1 := by
  subst hw
  refine (refall_any s w0.drew hs).mono ?_
  rintro e w' ⟨ao, cap, he, h2, h3, h4, h5⟩
  have hB : Below w0.heap.size w0 w' := (Below.refl _ _).drew.trans h4
  exact ⟨ao, cap, he, ⟨h2, h3, hB, h5⟩, (hB.cell (p := ⟨b, 0, none⟩) hb).trans h0, (hB.cell (p := ⟨b, 1, none⟩) hb).trans h1⟩

set_option maxRecDepth 100000 in
set_option maxHeartbeats 2000000 in
theorem ropen_any (b : Nat) (d : Dk) (w : World) (hd : IsRf w b d) (hf : d.Fit) :
    Calls Tryd.prog 28 #[.pointer (some ⟨b, 0, none⟩)] w fun e w' =>
      (IsRf w' b d.open.1 ∧ Kept b w w') ∧
      ((d.open.2 ≠ 0 ∧ e = .returned (.tuple #[.pointer none, .slice none 0 0, .int .i64 d.open.2])) ∨
       (d.open.2 = 0 ∧ ∃ g ao cap, e = .returned (.tuple #[.pointer (some ⟨g, 0, none⟩), .slice ao (allB (d.safe ++ d.tail)).length cap, .int .i64 0]) ∧ w.heap.size ≤ g ∧
          IsRg w' g b ⟨(allB (d.safe ++ d.tail)).length, allN (d.safe ++ d.tail), false⟩ ∧ (allB (d.safe ++ d.tail)).length ≤ cap ∧ SlAt w' ao ((allB (d.safe ++ d.tail)).map Value.string) ∧ ∀ a, ao = some a → w.heap.size ≤ a.block)) := by
  have hf2 := hf
  obtain ⟨hs1, hst, hle⟩ := hf
  have hbl := hd.lt
  have c0 : w.cell? ⟨b, 0, none⟩ = some (.string d.safe) := hd.cell 0
  have c1 : w.cell? ⟨b, 1, none⟩ = some (.string d.tail) := hd.cell 1
  obtain ⟨Q, hQ⟩ := nm d.open
  obtain ⟨x, hx⟩ := nm d.open1
  have hq0 : Q = if x.2 = 0 then x.1.sync else x := by rw [hQ.out, Dk.open, hx.out]
  have hx0 := hx.out
  unfold Dk.open1 at hx0
  rw [← hQ.out]
  clear hQ hx
  obtain ⟨s, hs⟩ := nm (d.safe ++ d.tail)
  have hss : s.size = d.safe.size + d.tail.size := by rw [hs.out, app_size]
  have hsd := hs.out.symm
  rw [← hs.out] at hx0 ⊢
  obtain ⟨X, hX⟩ := nm (allB s)
  obtain ⟨n, hn⟩ := nm (allN s)
  have hns : n ≤ s.size := by rw [hn.out]; exact allN_le s
  rw [← hn.out] at hx0
  rw [← hX.out, ← hn.out]
  have hXN : Hid (allB s = X ∧ (allL (bl s)).2 = n) := ⟨hX.out.symm, hn.out.symm⟩
  clear hX hn
  have hxf : (0 ≤ x.1.steps ∧ x.1.steps ≤ 4611686018427387904) ∧ (0 ≤ x.1.left ∧ x.1.left ≤ 9223372036854775807) ∧ x.1.safe.size + x.1.tail.size ≤ 4611686018427387904 := by
    rw [hx0]
    split
    · obtain ⟨g1, g2, g3⟩ := swap_fit hf2 (s.extract 0 n) _ rfl
      rw [ByteArray.size_extract] at g3
      refine ⟨by omega, g2, by omega⟩
    · exact ⟨by simp only; omega, hle, by simp only; omega⟩
  have HX := Lib.hid hx0
  clear hx0
  have hcat : ¬ (9223372036854775807 < d.safe.size + d.tail.size) := by omega
  have HA := Lib.hid (refall_is s b (.string d.safe) (.string d.tail) w _ rfl (by omega) hbl c0 c1)
  go_enter Tryd.func28, Tryd.ntmps28
  go_wp2_with fail
  go_region_held3 (fun w' => w'.cell? ⟨b, 0, none⟩ = some (.string d.safe) ∧ w'.cell? ⟨b, 1, none⟩ = some (.string d.tail)) (first | exact ⟨by assumption, by assumption⟩ | go_keep)
    ((go_at_call 12; refine HA.out.mono ?_; rintro e w2 ⟨ao, cap, rfl, h1, g0, g1⟩))
  all_goals
    obtain ⟨hcap, hsl, hB, hnw⟩ := h1
    rw [hXN.out.1] at hsl hcap ⊢
    rw [hXN.out.2]
    have hd2 : IsRf w2 b d := Blk.below hd hB hbl
    have hk2 : Kept b w w2 := Kept.ofBelow hB
    obtain ⟨m, hm⟩ := nm X.length
    rw [← hm.out] at hcap ⊢
    have hm63 : m ≤ 9223372036854775807 := by
      have := allB_len s
      rw [hXN.out.1, ← hm.out] at this
      omega
    have hsumw : IntKind.i64.wrap ((d.safe.size : Int) + (d.tail.size : Int)) = (d.safe.size : Int) + (d.tail.size : Int) := by rw [IntKind.wrap_i64]; omega
    clear hB hd c0 c1 HA
    go_wp2_with fail
    go_quiet (fail)
    replace hd2 : IsRf (w2.drewN nq) b d := hd2.drewN nq
    replace hk2 : Kept b w (w2.drewN nq) := hk2.drewN nq
    replace hsl : SlAt (w2.drewN nq) ao (X.map Value.string) := hsl.below (below_drewN (Below.refl _ _) nq)
    have k0 : (w2.drewN nq).cell? ⟨b, 0, none⟩ = some (.string d.safe) := hd2.cell 0
    have k1 : (w2.drewN nq).cell? ⟨b, 1, none⟩ = some (.string d.tail) := hd2.cell 1
    clear g0 g1
    generalize w2.drewN nq = w3 at hd2 hk2 hsl k0 k1 ⊢
    by_cases hlt : n < s.size
    · have hx1 := HX.out
      rw [if_pos hlt] at hx1
      have hk0 : (0 : Int) ≤ (n : Int) := by omega
      have hk1 : (n : Int) ≤ (s.size : Int) := by omega
      have hlt2 : decide ((n : Int) < (d.safe.size : Int) + (d.tail.size : Int)) = true := decide_eq_true (by omega)
      go_wp2_with fail
      go_quiet (fail)
      replace hd2 : IsRf (w3.drewN nq) b d := hd2.drewN nq
      replace hk2 : Kept b w (w3.drewN nq) := hk2.drewN nq
      replace hsl : SlAt (w3.drewN nq) ao (X.map Value.string) := hsl.below (below_drewN (Below.refl _ _) nq)
      clear k0 k1
      generalize w3.drewN nq = w5 at hd2 hk2 hsl ⊢
      go_wp2_with fail
      refine (rswap_any b d _ w5 hd2 (by omega) hle).mono ?_; rintro e w6 ⟨rfl, hd3, hk⟩
      rw [← hx1] at hd3 ⊢
      clear hx1
      have hk3 := hk2.trans hk
      have hsl3 := hsl.above hnw hk.size (fun k h1 h2 => hk.block k h1 (by omega))
      obtain ⟨x1, x2⟩ := x
      simp only at hq0 hxf hd3 ⊢
      by_cases hx2 : x2 = 0
      · rw [if_pos hx2] at hq0
        subst hx2
        go_wp2_with fail
        refine (rsync_any b x1 _ hd3 hxf.2.2 hxf.1 hxf.2.1).mono ?_; rintro e w4 ⟨rfl, hd4, hk4⟩
        rw [← hq0] at hd4 ⊢
        have hk5 := hk3.trans hk4
        have hsl4 := hsl3.above hnw hk4.size (fun k h1 h2 => hk4.block k h1 (by omega))
        obtain ⟨y1, y2⟩ := Q
        simp only at hd4 ⊢
        by_cases hy : y2 = 0
        · subst hy
          go_wp2_with fail
          go_ret3
          rw [← hm.out]
          refine ⟨⟨hd4.alloc _, hk5.alloc _⟩, w4.heap.size, ao, cap, rfl, hk5.size, ?_, hcap, ?_, hnw⟩
          · exact Blk.new _ _ _
          · exact hsl4.above (B := 0) (fun _ _ => Nat.zero_le _) (by simp) (fun k h1 _ => Below.heap_alloc _ _ _ h1)
        · have hyb : (y2 == 0) = false := by simpa using hy
          go_wp2_with fail
          go_ret3
          exact ⟨⟨hd4, hk5⟩, rfl⟩
      · rw [if_neg hx2] at hq0
        subst hq0
        have hyb : (x2 == 0) = false := by simpa using hx2
        go_wp2_with fail
        go_ret3
        exact ⟨⟨hd3, hk3⟩, rfl⟩
    · have hx1 := HX.out
      rw [if_neg hlt] at hx1
      subst hx1
      rw [if_pos rfl] at hq0
      simp only at hq0 hxf
      have hlt2 : decide ((n : Int) < (d.safe.size : Int) + (d.tail.size : Int)) = false := decide_eq_false (by omega)
      have hd3 := hd2
      have hk3 := hk2
      have hsl3 := hsl
      go_wp2_with fail
      refine (rsync_any b d _ hd3 hxf.2.2 hxf.1 hxf.2.1).mono ?_; rintro e w4 ⟨rfl, hd4, hk4⟩
      rw [← hq0] at hd4 ⊢
      have hk5 := hk3.trans hk4
      have hsl4 := hsl3.above hnw hk4.size (fun k h1 h2 => hk4.block k h1 (by omega))
      obtain ⟨y1, y2⟩ := Q
      simp only at hd4 ⊢
      by_cases hy : y2 = 0
      · subst hy
        go_wp2_with fail
        go_ret3
        rw [← hm.out]
        refine ⟨⟨hd4.alloc _, hk5.alloc _⟩, w4.heap.size, ao, cap, rfl, hk5.size, ?_, hcap, ?_, hnw⟩
        · exact Blk.new _ _ _
        · exact hsl4.above (B := 0) (fun _ _ => Nat.zero_le _) (by simp) (fun k h1 _ => Below.heap_alloc _ _ _ h1)
      · have hyb : (y2 == 0) = false := by simpa using hy
        go_wp2_with fail
        go_ret3
        exact ⟨⟨hd4, hk5⟩, rfl⟩
end Go.Proofs.YtkglfnjgneofdaaDoor
