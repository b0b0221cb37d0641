/- dot.Find: by halves. -/
import Derived.Test.YthhcooabfgegaaaPair
import Derived.Test.YthhcooabfgegaaaPairEq
import Derived.Test.YthhcooabfgegaaaDotCmp
import Derived.WalkMore
import Derived.IntWalk
namespace Go.Proofs.Ythhcooabfgegaaa
open Go.RowKit Go.Shelf Go.Lib Go.Sort

theorem asc_mono {ps : List (Int × Int)} (ha : Asc ps) {i j : Nat} (hij : i < j) (hj : j < ps.length) : ltP ps[i]! ps[j]! := by
  have := List.pairwise_iff_getElem.1 ha i j (by omega) hj hij
  rwa [getElem!_pos ps i (by omega), getElem!_pos ps j hj]
theorem get_of {ps : List (Int × Int)} {i : Nat} {p : Int × Int} (h : ps[i]? = some p) : i < ps.length ∧ ps[i]! = p := by
  have hi : i < ps.length := by
    rcases Nat.lt_or_ge i ps.length with h1 | h1
    · exact h1
    · rw [List.getElem?_eq_none h1] at h; cases h
  refine ⟨hi, ?_⟩
  rw [getElem!_pos ps i hi]
  rw [List.getElem?_eq_getElem hi] at h
  exact Option.some.inj h
theorem asc_notlt {ps : List (Int × Int)} (ha : Asc ps) {M i : Nat} {p q : Int × Int} (hp : ps[M]? = some p) (hi : i < ps.length) (hMi : M ≤ i) (hn : ¬ ltP p q) : ¬ ltP ps[i]! q := by
  obtain ⟨h1, h2⟩ := get_of hp
  rcases Nat.lt_or_ge M i with h | h
  · intro hl
    have := asc_mono ha h hi
    rw [h2] at this
    exact hn (ltP_trans this hl)
  · obtain rfl : M = i := by omega
    rw [h2]; exact hn
theorem asc_lt {ps : List (Int × Int)} (ha : Asc ps) {M i : Nat} {p q : Int × Int} (hp : ps[M]? = some p) (hMi : i ≤ M) (hn : ltP p q) : ltP ps[i]! q := by
  obtain ⟨h1, h2⟩ := get_of hp
  rcases Nat.lt_or_ge i M with h | h
  · have := asc_mono ha h h1
    rw [h2] at this
    exact ltP_trans this hn
  · obtain rfl : i = M := by omega
    rw [h2]; exact hn
theorem below_drewN {B : Nat} {w a : World} (h : Below B w a) (n : Nat) : Below B w (a.drewN n) := ⟨h.os, h.tape, h.output, h.size, h.block⟩

/-- What dot.Find tells. -/
def FindTells (ps : List (Int × Int)) (p : Int × Int) (w : World) (e : Ending) (w' : World) : Prop :=
  ∃ j : Nat, j ≤ ps.length ∧ e = .returned (.tuple #[.int .i64 (j : Int), .bool (decide (ps[j]? = some p))]) ∧ (Asc ps → j = lowD ps p) ∧ Below w.heap.size w w'

set_option maxRecDepth 100000 in
set_option maxHeartbeats 1000000 in
theorem find_any (ao : Option Addr) (ps : List (Int × Int)) (n cap : Nat) (hn : Hid (ps.length = n)) (x y : Int) (w : World) (hs : SlP w ao ps) (hm : n ≤ 1000000000) :
    Calls Try.prog 13 #[.slice ao n cap, .agg #[.int .i64 x, .int .i64 y]] w (FindTells ps (x, y) w) := by
  have HS := Lib.hid hs
  clear hs
  have hb0 : Blk (w.alloc (.cells #[.int .i64 x, .int .i64 y] 23)) w.heap.size #[.int .i64 x, .int .i64 y] 23 := Blk.new _ _ _
  obtain ⟨w1, hw1⟩ := nm (w.alloc (.cells #[.int .i64 x, .int .i64 y] 23))
  rw [← hw1.out] at hb0
  have hB0 : Below w.heap.size w w1 := by rw [hw1.out]; exact bOld _
  have HB0 := Lib.hid hB0
  obtain ⟨p, hp⟩ := nm w.heap.size
  rw [← hp.out] at hb0
  have HBX := Lib.hid hb0
  clear hB0 hb0
  go_enter Try.func13, Try.ntmps13
  go_wp2_with fail
  rw [← hp.out, ← hw1.out]
  go_step3
  go_wp2_with fail
  go_step3
  go_wp2_with fail
  go_loopw [6, 7] (fun lo hi wr => ∃ L H : Nat, L ≤ H ∧ H ≤ n ∧ lo = .int .i64 (L : Int) ∧ hi = .int .i64 (H : Int) ∧ Below w1.heap.size w1 wr ∧ Hid (Asc ps → (∀ i, i < L → ltP ps[i]! (x, y)) ∧ (∀ i, H ≤ i → i < n → ¬ ltP ps[i]! (x, y)))) (fun lo hi _ => (intOf hi).toNat - (intOf lo).toNat)
  case atStart => exact ⟨0, n, by omega, by omega, rfl, rfl, Below.refl _ _, Lib.hid (fun _ => ⟨fun i hi => absurd hi (Nat.not_lt_zero _), fun i h1 h2 => absurd h2 (by omega)⟩)⟩
  case round =>
    obtain ⟨L, H, hLH, hHn, rfl, rfl, hB, hI⟩ := hrel
    by_cases hlt : L < H
    · obtain ⟨M, hM⟩ : ∃ M : Nat, M = (L + H) / 2 := ⟨_, rfl⟩
      have hM1 : ((L : Int) + (H : Int)) / 2 = (M : Int) := by omega
      have hM2 : L ≤ M ∧ M < H := by omega
      clear hM
      obtain ⟨hM2, hM3⟩ := hM2
      have hM4 : M < n := by omega
      obtain ⟨b, off, u, v, rfl, hbl, c0, c1, hpk⟩ := HS.out.get M (by rw [hn.out]; exact hM4)
      have hbx : Blk wr p #[.int .i64 x, .int .i64 y] 23 := HBX.out.below hB HBX.out.lt
      have b0 : wr.cell? ⟨p, 0, none⟩ = some (.int .i64 x) := hbx.cell 0
      have b1 : wr.cell? ⟨p, 1, none⟩ = some (.int .i64 y) := hbx.cell 1
      have d0 : wr.cell? ⟨b, off + M * 2, none⟩ = some (.int .i64 u) := ((bNext HB0.out hB).cell (p := ⟨b, off + M * 2, none⟩) hbl).trans c0
      have d1 : wr.cell? ⟨b, off + M * 2 + 1, none⟩ = some (.int .i64 v) := ((bNext HB0.out hB).cell (p := ⟨b, off + M * 2 + 1, none⟩) hbl).trans c1
      clear c0 c1 hbx
      go_wp2_with fail
      simp only [hM1]
      refine wp_region_still_tail 5 (by kernel_rfl) (by kernel_rfl) ?_
      simp only [List.take_succ_cons, List.take_zero, List.drop_succ_cons, List.drop_zero]
      change wpStill _ _ (World.drew _) (fun a' => wpList _ _ _ _ a' (World.drew _)) _ _
      repeat still_step
      refine wpStill_nil ?_
      obtain ⟨B, hBB⟩ := nm (decide (ltP (u, v) (x, y)))
      have hless := less_any u v x y wr.drew
      rw [← hBB.out] at hless
      clear d0 d1 b0 b1 hM1
      cases B
      · go_wp2_with fail
        refine hless.mono ?_; rintro e w3 ⟨rfl, hB3⟩
        have hB4 : Below w1.heap.size w1 w3 := hB.trans (((Below.refl _ _).drew.trans hB3).mono hB.size)
        have HI : Hid (Asc ps → (∀ i, i < L → ltP ps[i]! (x, y)) ∧ (∀ i, M ≤ i → i < n → ¬ ltP ps[i]! (x, y))) := by
          intro ha
          obtain ⟨g1, g2⟩ := hI.out ha
          refine ⟨g1, fun i hi hn' => ?_⟩
          have hnl : ¬ ltP (u, v) (x, y) := by simpa using hBB.out.symm
          exact asc_notlt ha hpk.out (by rw [hn.out]; exact hn') hi hnl
        go_wp2_with fail
        go_roundw
        case rel => exact ⟨L, M, hM2, by omega, rfl, rfl, hB4, HI⟩
        case measure => simp [intOf]; omega
      · go_wp2_with fail
        refine hless.mono ?_; rintro e w3 ⟨rfl, hB3⟩
        have hB4 : Below w1.heap.size w1 w3 := hB.trans (((Below.refl _ _).drew.trans hB3).mono hB.size)
        have HI : Hid (Asc ps → (∀ i, i < M + 1 → ltP ps[i]! (x, y)) ∧ (∀ i, H ≤ i → i < n → ¬ ltP ps[i]! (x, y))) := by
          intro ha
          obtain ⟨g1, g2⟩ := hI.out ha
          refine ⟨fun i hi => ?_, g2⟩
          have hnl : ltP (u, v) (x, y) := by simpa using hBB.out.symm
          exact asc_lt ha hpk.out (by omega) hnl
        go_wp2_with fail
        go_roundw
        case rel => exact ⟨M + 1, H, by omega, hHn, by go_num, rfl, hB4, HI⟩
        case measure => simp [intOf]; omega
    · obtain rfl : L = H := by omega
      have hbx : Blk wr p #[.int .i64 x, .int .i64 y] 23 := HBX.out.below hB HBX.out.lt
      have b0 : wr.cell? ⟨p, 0, none⟩ = some (.int .i64 x) := hbx.cell 0
      have b1 : wr.cell? ⟨p, 1, none⟩ = some (.int .i64 y) := hbx.cell 1
      clear hbx
      have HL : Hid (Asc ps → L = lowD ps (x, y)) := by
        intro ha
        obtain ⟨g1, g2⟩ := hI.out ha
        exact lowD_of ps (x, y) L (by rw [hn.out]; exact hHn) g1 (fun i h1 h2 => g2 i h1 (by rw [← hn.out]; exact h2))
      by_cases hLn : L < n
      · obtain ⟨b, off, u, v, rfl, hbl, c0, c1, hpk⟩ := HS.out.get L (by rw [hn.out]; exact hLn)
        have d0 : wr.cell? ⟨b, off + L * 2, none⟩ = some (.int .i64 u) := ((bNext HB0.out hB).cell (p := ⟨b, off + L * 2, none⟩) hbl).trans c0
        have d1 : wr.cell? ⟨b, off + L * 2 + 1, none⟩ = some (.int .i64 v) := ((bNext HB0.out hB).cell (p := ⟨b, off + L * 2 + 1, none⟩) hbl).trans c1
        clear c0 c1
        obtain ⟨B, hBB⟩ := nm (decide ((u, v) = (x, y)))
        have heq := fun w => eqlD u v x y B hBB.out.symm w
        have hgd := fun (a b : Operand) (w : World) => guardD .eql a b #[.int .i64 u, .int .i64 v] #[.int .i64 x, .int .i64 y] w
        have HE : Hid (decide (ps[L]? = some (x, y)) = B) := by
          show _ = _
          rw [hpk.out, hBB.out]
          simp
        go_wp2_with fail
        go_quiet (fail)
        go_wp2_with fail
        first | go_ret2 | (rw [Exit.noGoto_ret]; go_ret2)
        exact ⟨L, by rw [hn.out]; exact hHn, by rw [HE.out]; rfl, HL.out, below_drewN (bNext HB0.out hB) _⟩
      · have HE : Hid (decide (ps[L]? = some (x, y)) = false) := by
          show _ = _
          rw [List.getElem?_eq_none (by rw [hn.out]; omega)]
          simp
        have hlb : decide ((L : Int) < (n : Int)) = false := by simp; omega
        go_wp2_with fail
        go_quiet (fail)
        go_wp2_with fail
        first | go_ret2 | (rw [Exit.noGoto_ret]; go_ret2)
        exact ⟨L, by rw [hn.out]; exact hHn, by rw [HE.out]; rfl, HL.out, below_drewN (bNext HB0.out hB) _⟩
end Go.Proofs.Ythhcooabfgegaaa
