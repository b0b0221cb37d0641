/- Two names, compared; less. (and what stands on it: 7 texts in one) -/
import Derived.BigQuiet
import Derived.Deep.QuietTactic
import Derived.StillTailTactics
import Derived.Outline
import Derived.Deep.RegionHeld3
import Derived.Shelf.RegionOpenPlain
import Derived.Lib.Small
import Derived.Sort.Grow
import Derived.WalkMore
import Derived.IntWalk
import Derived.Deep.DeepCutAuto
import Derived.Test.YtfpjdmplepepjaaJ1
import Derived.Test.YtfpjdmplepepjaaJ2
/-! WCmp: Two names, compared; less. -/
namespace Go.Proofs.Ytfpjdmplepepjaa
open Go.RowKit Go.Sort

theorem bKept {w a c : World} {b : Nat} (h : Below w.heap.size w a) (k : Kept b a c) (hb : w.heap.size ≤ b) : Below w.heap.size w c := h.trans (k.below hb h.size)
theorem cmpint_any (x y : Int) (w : World) :
    Calls Try.prog 113 #[.int .i64 x, .int .i64 y] w fun e w' => e = .returned (.int .i64 (Lib.compareInt x y)) ∧ w' = w := AnyG.cmp_Compare_int Try.cmpInt x y w

set_option maxRecDepth 100000 in
set_option maxHeartbeats 400000 in
/-- cmp.Or of two numbers that lie in a row. -/
theorem or2_any (b : Nat) (x y z : Int) (hz : z = if x = 0 then y else x) (w : World) (h0 : w.cell? ⟨b, 0, none⟩ = some (.int .i64 x)) (h1 : w.cell? ⟨b, 1, none⟩ = some (.int .i64 y)) :
    Calls Try.prog 112 #[.slice (some ⟨b, 0, none⟩) 2 2] w fun e w' => e = .returned (.int .i64 z) ∧ w = w' := by
  by_cases hx : x = 0
  · rw [if_pos hx] at hz
    subst hx hz
    by_cases hy : z = 0
    · subst hy
      go_enter Try.func112, Try.ntmps112
      go_wp2_with fail
      refine wp_loop_rounds 3 ?_
      rw [rounds_succ]
      go_wp2_with fail
      rw [rounds_succ]
      go_wp2_with fail
      rw [rounds_succ]
      go_wp2_with fail
      go_ret
      exact ⟨rfl, rfl⟩
    · have hne : (z != 0) = true := by simpa using hy
      go_enter Try.func112, Try.ntmps112
      go_wp2_with fail
      refine wp_loop_rounds 3 ?_
      rw [rounds_succ]
      go_wp2_with fail
      rw [rounds_succ]
      go_wp2_with fail
      go_ret
      exact ⟨rfl, rfl⟩
  · rw [if_neg hx] at hz
    subst hz
    have hne : (z != 0) = true := by simpa using hx
    go_enter Try.func112, Try.ntmps112
    go_wp2_with fail
    refine wp_loop_rounds 3 ?_
    rw [rounds_succ]
    go_wp2_with fail
    go_ret
    exact ⟨rfl, rfl⟩

theorem wOne (b : Nat) (x y : Int) (hb : b = 0 ∨ b = 1) : (#[Value.int .i64 x, Value.int .i64 y] : Array Value)[b]? = some (.int .i64 (if b = 0 then x else y)) := by
  rcases hb with rfl | rfl <;> rfl
theorem cmpint_is (x y A : Int) (hA : Hid (A = Lib.compareInt x y)) (w : World) :
    Calls Try.prog 113 #[.int .i64 x, .int .i64 y] w fun e w' => e = .returned (.int .i64 A) ∧ w' = w := by rw [hA.out]; exact cmpint_any x y w
theorem or2_is (A B C : Int) (hC : Hid (C = if A = 0 then B else A)) (T : TypeId) (w w0 : World) (h : w = w0.alloc (.cells #[.int .i64 A, .int .i64 B] T)) :
    Calls Try.prog 112 #[.slice (some ⟨w0.heap.size, 0, none⟩) 2 2] w fun e w' => e = .returned (.int .i64 C) ∧ w = w' := by
  subst h
  exact or2_any _ A B C hC.out _ ((Blk.new w0 _ T).cell 0) ((Blk.new w0 _ T).cell 1)

set_option maxRecDepth 100000 in
set_option maxHeartbeats 400000 in
theorem compare_any (x y : Int × Int) (w : World) :
    Calls Try.prog 101 #[.agg #[.int .i64 x.1, .int .i64 x.2], .agg #[.int .i64 y.1, .int .i64 y.2]] w fun e w' => e = .returned (.int .i64 (if Lib.compareInt x.1 y.1 = 0 then Lib.compareInt x.2 y.2 else Lib.compareInt x.1 y.1)) ∧ ∃ q os', w' = grow (w.drewN q) os' := by
  obtain ⟨x1, x2⟩ := x
  obtain ⟨y1, y2⟩ := y
  simp only
  obtain ⟨A, hA⟩ := nm (Lib.compareInt x1 y1)
  obtain ⟨B, hB⟩ := nm (Lib.compareInt x2 y2)
  obtain ⟨C, hC⟩ := nm (if A = 0 then B else A)
  rw [← hA.out, ← hB.out, ← hC.out]
  go_enter Try.func101, Try.ntmps101
  go_wp2_with fail
  refine wp_region_still_tail 10 (by kernel_rfl) (by kernel_rfl) ?_
  simp only [List.take_succ_cons, List.take_zero, List.drop_succ_cons, List.drop_zero]
  change wpStill _ _ (World.drew _) (fun a' => wpList _ _ _ _ a' (World.drew _)) _ _
  still_step
  still_step
  still_step
  still_step
  still_call (cmpint_is x1 y1 A hA _)
  still_step
  still_step
  still_step
  still_step
  still_call (cmpint_is x2 y2 B hB _)
  refine wpStill_nil ?_
  generalize hw1 : ((w.alloc (Obj.cells #[Value.int IntKind.i64 x1, Value.int IntKind.i64 x2] 31)).alloc (Obj.cells #[Value.int IntKind.i64 y1, Value.int IntKind.i64 y2] 31)).drew = w1
  have HW := Lib.hid hw1
  clear hw1
  go_wp2_with fail
  refine (or2_is A B C hC 3 _ _ rfl).mono ?_; rintro e w2 ⟨rfl, rfl⟩
  go_wp2_with fail
  go_ret
  refine ⟨rfl, 1, #[.cells #[.int .i64 x1, .int .i64 x2] 31, .cells #[.int .i64 y1, .int .i64 y2] 31, .cells #[.int .i64 A, .int .i64 B] 3], ?_⟩
  rw [← HW.out]
  simp only [alloc_eq_grow, drew_grow, grow_grow]
  rfl

theorem below_grow {w : World} (q : Nat) (os : Array Obj) : Below w.heap.size w (grow (w.drewN q) os) :=
  ⟨rfl, rfl, rfl, by rw [size_grow]; exact Nat.le_add_right _ _, fun k hk => heap_grow_old _ _ hk⟩

set_option maxRecDepth 100000 in
set_option maxHeartbeats 400000 in
theorem less_any (x1 x2 y1 y2 : Int) (w : World) :
    Calls Try.prog 69 #[.agg #[.int .i64 x1, .int .i64 x2], .agg #[.int .i64 y1, .int .i64 y2]] w fun e w' => e = .returned (.bool (decide (ltP (x1, x2) (y1, y2)))) ∧ Below w.heap.size w w' := by
  have hc := fun W => compare_any (x1, x2) (y1, y2) W
  have hneg := cmpD_neg (x1, x2) (y1, y2)
  unfold cmpD at hneg
  simp only at hc hneg
  generalize (if Lib.compareInt x1 y1 = 0 then Lib.compareInt x2 y2 else Lib.compareInt x1 y1) = C at hc hneg
  obtain ⟨B, hB⟩ := nm (decide (ltP (x1, x2) (y1, y2)))
  have hb : decide (C < 0) = B := by rw [hB.out]; exact decide_eq_decide.2 hneg
  rw [← hB.out]
  have HC := Lib.hid hc
  have HB := Lib.hid hb
  clear hc hneg hb
  go_enter Try.func69, Try.ntmps69
  go_wp2_with fail
  refine (HC.out _).mono ?_; rintro e w1 ⟨rfl, q, os, rfl⟩
  go_wp2_with fail
  go_ret
  exact ⟨congrArg (fun b => Ending.returned (Value.bool b)) HB.out, (bNew (bOld _) _).trans ((below_grow q os).mono (by simp; omega))⟩
end Go.Proofs.Ytfpjdmplepepjaa

/-! WFind: dot.Find: by halves. -/
namespace Go.Proofs.Ytfpjdmplepepjaa
open Go.RowKit Go.Sort

theorem asc_mono {ps : List (Int × Int)} (ha : Asc ps) {i j : Nat} (hij : i < j) (hj : j < ps.length) : ltP ps[i]! ps[j]! := by
  have := List.pairwise_iff_getElem.1 ha i j (by omega) hj hij
  rwa [getElem!_pos ps i (by omega), getElem!_pos ps j hj]
theorem get_of {ps : List (Int × Int)} {i : Nat} {p : Int × Int} (h : ps[i]? = some p) : i < ps.length ∧ ps[i]! = p := by
  have hi : i < ps.length := by
    rcases Nat.lt_or_ge i ps.length with h1 | h1
    · exact h1
    · rw [List.getElem?_eq_none h1] at h; cases h
  refine ⟨hi, ?_⟩
  rw [getElem!_pos ps i hi]
  rw [List.getElem?_eq_getElem hi] at h
  exact Option.some.inj h
theorem asc_notlt {ps : List (Int × Int)} (ha : Asc ps) {M i : Nat} {p q : Int × Int} (hp : ps[M]? = some p) (hi : i < ps.length) (hMi : M ≤ i) (hn : ¬ ltP p q) : ¬ ltP ps[i]! q := by
  obtain ⟨h1, h2⟩ := get_of hp
  rcases Nat.lt_or_ge M i with h | h
  · intro hl
    have := asc_mono ha h hi
    rw [h2] at this
    exact hn (ltP_trans this hl)
  · obtain rfl : M = i := by omega
    rw [h2]; exact hn
theorem asc_lt {ps : List (Int × Int)} (ha : Asc ps) {M i : Nat} {p q : Int × Int} (hp : ps[M]? = some p) (hMi : i ≤ M) (hn : ltP p q) : ltP ps[i]! q := by
  obtain ⟨h1, h2⟩ := get_of hp
  rcases Nat.lt_or_ge i M with h | h
  · have := asc_mono ha h h1
    rw [h2] at this
    exact ltP_trans this hn
  · obtain rfl : i = M := by omega
    rw [h2]; exact hn
theorem below_drewN {B : Nat} {w a : World} (h : Below B w a) (n : Nat) : Below B w (a.drewN n) := ⟨h.os, h.tape, h.output, h.size, h.block⟩

/-- What dot.Find tells. -/
def FindTells (ps : List (Int × Int)) (p : Int × Int) (w : World) (e : Ending) (w' : World) : Prop :=
  ∃ j : Nat, j ≤ ps.length ∧ e = .returned (.tuple #[.int .i64 (j : Int), .bool (decide (ps[j]? = some p))]) ∧ (Asc ps → j = lowD ps p) ∧ Below w.heap.size w w'

set_option maxRecDepth 100000 in
set_option maxHeartbeats 1000000 in
theorem find_any (ao : Option Addr) (ps : List (Int × Int)) (n cap : Nat) (hn : Hid (ps.length = n)) (x y : Int) (w : World) (hs : SlP w ao ps) (hm : n ≤ 1000000000) :
    Calls Try.prog 100 #[.slice ao n cap, .agg #[.int .i64 x, .int .i64 y]] w (FindTells ps (x, y) w) := by
  have HS := Lib.hid hs
  clear hs
  have hb0 : Blk (w.alloc (.cells #[.int .i64 x, .int .i64 y] 31)) w.heap.size #[.int .i64 x, .int .i64 y] 31 := Blk.new _ _ _
  obtain ⟨w1, hw1⟩ := nm (w.alloc (.cells #[.int .i64 x, .int .i64 y] 31))
  rw [← hw1.out] at hb0
  have hB0 : Below w.heap.size w w1 := by rw [hw1.out]; exact bOld _
  have HB0 := Lib.hid hB0
  obtain ⟨p, hp⟩ := nm w.heap.size
  rw [← hp.out] at hb0
  have HBX := Lib.hid hb0
  clear hB0 hb0
  go_enter Try.func100, Try.ntmps100
  go_wp2_with fail
  rw [← hp.out, ← hw1.out]
  go_step3
  go_wp2_with fail
  go_step3
  go_wp2_with fail
  go_loopw [6, 7] (fun lo hi wr => ∃ L H : Nat, L ≤ H ∧ H ≤ n ∧ lo = .int .i64 (L : Int) ∧ hi = .int .i64 (H : Int) ∧ Below w1.heap.size w1 wr ∧ Hid (Asc ps → (∀ i, i < L → ltP ps[i]! (x, y)) ∧ (∀ i, H ≤ i → i < n → ¬ ltP ps[i]! (x, y)))) (fun lo hi _ => (intOf hi).toNat - (intOf lo).toNat)
  case atStart => exact ⟨0, n, by omega, by omega, rfl, rfl, Below.refl _ _, Lib.hid (fun _ => ⟨fun i hi => absurd hi (Nat.not_lt_zero _), fun i h1 h2 => absurd h2 (by omega)⟩)⟩
  case round =>
    obtain ⟨L, H, hLH, hHn, rfl, rfl, hB, hI⟩ := hrel
    by_cases hlt : L < H
    · obtain ⟨M, hM⟩ : ∃ M : Nat, M = (L + H) / 2 := ⟨_, rfl⟩
      have hM1 : ((L : Int) + (H : Int)) / 2 = (M : Int) := by omega
      have hM2 : L ≤ M ∧ M < H := by omega
      clear hM
      obtain ⟨hM2, hM3⟩ := hM2
      have hM4 : M < n := by omega
      obtain ⟨b, off, u, v, rfl, hbl, c0, c1, hpk⟩ := HS.out.get M (by rw [hn.out]; exact hM4)
      have hbx : Blk wr p #[.int .i64 x, .int .i64 y] 31 := HBX.out.below hB HBX.out.lt
      have b0 : wr.cell? ⟨p, 0, none⟩ = some (.int .i64 x) := hbx.cell 0
      have b1 : wr.cell? ⟨p, 1, none⟩ = some (.int .i64 y) := hbx.cell 1
      have d0 : wr.cell? ⟨b, off + M * 2, none⟩ = some (.int .i64 u) := ((bNext HB0.out hB).cell (p := ⟨b, off + M * 2, none⟩) hbl).trans c0
      have d1 : wr.cell? ⟨b, off + M * 2 + 1, none⟩ = some (.int .i64 v) := ((bNext HB0.out hB).cell (p := ⟨b, off + M * 2 + 1, none⟩) hbl).trans c1
      clear c0 c1 hbx
      go_wp2_with fail
      simp only [hM1]
      refine wp_region_still_tail 5 (by kernel_rfl) (by kernel_rfl) ?_
      simp only [List.take_succ_cons, List.take_zero, List.drop_succ_cons, List.drop_zero]
      change wpStill _ _ (World.drew _) (fun a' => wpList _ _ _ _ a' (World.drew _)) _ _
      repeat still_step
      refine wpStill_nil ?_
      obtain ⟨B, hBB⟩ := nm (decide (ltP (u, v) (x, y)))
      have hless := less_any u v x y wr.drew
      rw [← hBB.out] at hless
      clear d0 d1 b0 b1 hM1
      cases B
      · go_wp2_with fail
        refine hless.mono ?_; rintro e w3 ⟨rfl, hB3⟩
        have hB4 : Below w1.heap.size w1 w3 := hB.trans (((Below.refl _ _).drew.trans hB3).mono hB.size)
        have HI : Hid (Asc ps → (∀ i, i < L → ltP ps[i]! (x, y)) ∧ (∀ i, M ≤ i → i < n → ¬ ltP ps[i]! (x, y))) := by
          intro ha
          obtain ⟨g1, g2⟩ := hI.out ha
          refine ⟨g1, fun i hi hn' => ?_⟩
          have hnl : ¬ ltP (u, v) (x, y) := by simpa using hBB.out.symm
          exact asc_notlt ha hpk.out (by rw [hn.out]; exact hn') hi hnl
        go_wp2_with fail
        go_roundw
        case rel => exact ⟨L, M, hM2, by omega, rfl, rfl, hB4, HI⟩
        case measure => simp [intOf]; omega
      · go_wp2_with fail
        refine hless.mono ?_; rintro e w3 ⟨rfl, hB3⟩
        have hB4 : Below w1.heap.size w1 w3 := hB.trans (((Below.refl _ _).drew.trans hB3).mono hB.size)
        have HI : Hid (Asc ps → (∀ i, i < M + 1 → ltP ps[i]! (x, y)) ∧ (∀ i, H ≤ i → i < n → ¬ ltP ps[i]! (x, y))) := by
          intro ha
          obtain ⟨g1, g2⟩ := hI.out ha
          refine ⟨fun i hi => ?_, g2⟩
          have hnl : ltP (u, v) (x, y) := by simpa using hBB.out.symm
          exact asc_lt ha hpk.out (by omega) hnl
        go_wp2_with fail
        go_roundw
        case rel => exact ⟨M + 1, H, by omega, hHn, by go_num, rfl, hB4, HI⟩
        case measure => simp [intOf]; omega
    · obtain rfl : L = H := by omega
      have hbx : Blk wr p #[.int .i64 x, .int .i64 y] 31 := HBX.out.below hB HBX.out.lt
      have b0 : wr.cell? ⟨p, 0, none⟩ = some (.int .i64 x) := hbx.cell 0
      have b1 : wr.cell? ⟨p, 1, none⟩ = some (.int .i64 y) := hbx.cell 1
      clear hbx
      have HL : Hid (Asc ps → L = lowD ps (x, y)) := by
        intro ha
        obtain ⟨g1, g2⟩ := hI.out ha
        exact lowD_of ps (x, y) L (by rw [hn.out]; exact hHn) g1 (fun i h1 h2 => g2 i h1 (by rw [← hn.out]; exact h2))
      by_cases hLn : L < n
      · obtain ⟨b, off, u, v, rfl, hbl, c0, c1, hpk⟩ := HS.out.get L (by rw [hn.out]; exact hLn)
        have d0 : wr.cell? ⟨b, off + L * 2, none⟩ = some (.int .i64 u) := ((bNext HB0.out hB).cell (p := ⟨b, off + L * 2, none⟩) hbl).trans c0
        have d1 : wr.cell? ⟨b, off + L * 2 + 1, none⟩ = some (.int .i64 v) := ((bNext HB0.out hB).cell (p := ⟨b, off + L * 2 + 1, none⟩) hbl).trans c1
        clear c0 c1
        obtain ⟨B, hBB⟩ := nm (decide ((u, v) = (x, y)))
        have heq := fun w => eqlD u v x y B hBB.out.symm w
        have hgd := fun (a b : Operand) (w : World) => guardD .eql a b #[.int .i64 u, .int .i64 v] #[.int .i64 x, .int .i64 y] w
        have HE : Hid (decide (ps[L]? = some (x, y)) = B) := by
          show _ = _
          rw [hpk.out, hBB.out]
          simp
        go_wp2_with fail
        go_quiet (fail)
        go_wp2_with fail
        first | go_ret2 | (rw [Exit.noGoto_ret]; go_ret2)
        exact ⟨L, by rw [hn.out]; exact hHn, by rw [HE.out]; rfl, HL.out, below_drewN (bNext HB0.out hB) _⟩
      · have HE : Hid (decide (ps[L]? = some (x, y)) = false) := by
          show _ = _
          rw [List.getElem?_eq_none (by rw [hn.out]; omega)]
          simp
        have hlb : decide ((L : Int) < (n : Int)) = false := by simp; omega
        go_wp2_with fail
        go_quiet (fail)
        go_wp2_with fail
        first | go_ret2 | (rw [Exit.noGoto_ret]; go_ret2)
        exact ⟨L, by rw [hn.out]; exact hHn, by rw [HE.out]; rfl, HL.out, below_drewN (bNext HB0.out hB) _⟩
end Go.Proofs.Ytfpjdmplepepjaa

/-! WDot: Names: may one be; do they rise; their bytes. -/
namespace Go.Proofs.Ytfpjdmplepepjaa
open Go.RowKit Go.Sort
theorem hidSymm {α : Type} {a b : α} (h : Hid (a = b)) : Hid (b = a) := h.out.symm
theorem less_is (x1 x2 y1 y2 : Int) (b : Bool) (hb : Hid (decide (ltP (x1, x2) (y1, y2)) = b)) (w : World) :
    Calls Try.prog 69 #[.agg #[.int .i64 x1, .int .i64 x2], .agg #[.int .i64 y1, .int .i64 y2]] w fun e w' => e = .returned (.bool b) ∧ Below w.heap.size w w' := by
  rw [← hb.out]; exact less_any x1 x2 y1 y2 w
theorem SlP.none_len {w : World} {ps : List (Int × Int)} (h : SlP w none ps) : ps.length = 0 := by
  rcases Nat.eq_zero_or_pos ps.length with h0 | h0
  · exact h0
  · obtain ⟨b, off, h1, _⟩ := h 0 h0; cases h1

theorem take_snocP {ps : List (Int × Int)} {k : Nat} {p : Int × Int} (h : ps[k]? = some p) : ps.take (k + 1) = ps.take k ++ [p] := by
  obtain ⟨g1, _⟩ := get_of h
  rw [List.take_succ_eq_append_getElem g1]
  rw [List.getElem?_eq_getElem g1] at h
  rw [Option.some.inj h]

/-- A row rises, as far as it was looked at. -/
theorem asc_snoc {l : List (Int × Int)} {p q : Int × Int} (h : Asc (l ++ [p])) (hl : ltP p q) : Asc (l ++ [p] ++ [q]) := by
  refine List.pairwise_append.2 ⟨h, List.pairwise_singleton _ _, fun a ha b hb => ?_⟩
  obtain rfl : b = q := by simpa using hb
  rcases List.mem_append.1 ha with h2 | h2
  · exact ltP_trans ((List.pairwise_append.1 h).2.2 a h2 p (by simp)) hl
  · obtain rfl : a = p := by simpa using h2
    exact hl

set_option maxRecDepth 100000 in
set_option maxHeartbeats 1000000 in
theorem rises_any (ao : Option Addr) (ps : List (Int × Int)) (n cap : Nat) (hn : Hid (ps.length = n)) (hm : n ≤ 1000000000) (w : World) (hs : SlP w ao ps) (r : Bool) (hr : Hid (r = decide (Asc ps))) :
    Calls Try.prog 98 #[.slice ao n cap] w fun e w' => e = .returned (.bool r) ∧ Below w.heap.size w w' := by
  have HS := Lib.hid hs
  clear hs
  go_enter Try.func98, Try.ntmps98
  go_wp2_with fail
  go_loopw [7] (fun i wr => ∃ k : Nat, k ≤ n ∧ i = .int .i64 (k : Int) ∧ Below w.heap.size w wr ∧ Hid (Asc (ps.take k))) (fun i _ => n - (intOf i).toNat)
  case atStart => exact ⟨0, by omega, rfl, Below.refl _ _, by show Asc _; simp [Asc]⟩
  case round =>
    obtain ⟨k, hk, rfl, hB, hI⟩ := hrel
    by_cases hlt : k < n
    · obtain ⟨b, off, u, v, rfl, hbl, c0, c1, hpk⟩ := HS.out.get k (by rw [hn.out]; exact hlt)
      have d0 : wr.cell? ⟨b, off + k * 2, none⟩ = some (.int .i64 u) := (hB.cell (p := ⟨b, off + k * 2, none⟩) hbl).trans c0
      have d1 : wr.cell? ⟨b, off + k * 2 + 1, none⟩ = some (.int .i64 v) := (hB.cell (p := ⟨b, off + k * 2 + 1, none⟩) hbl).trans c1
      clear c0 c1
      by_cases hk0 : k = 0
      · subst hk0
        rw [Nat.zero_mul, Nat.add_zero] at d0 d1
        have HI : Hid (Asc (ps.take 1)) := by
          show Asc _
          rw [take_snocP hpk.out]
          simp [Asc]
        go_wp2_with fail
        go_quiet (fail)
        go_wp2_with fail
        go_roundw
        case rel => exact ⟨1, by omega, by go_num, below_drewN (bNew hB _) _, HI⟩
        case measure => simp [intOf]; omega
      · have hbs := hB.size
        obtain ⟨b', off', u1, v1, e', hbl', c2, c3, hpj⟩ := HS.out.get (k - 1) (by rw [hn.out]; omega)
        cases e'
        have d2 : wr.cell? ⟨b, off + (k - 1) * 2, none⟩ = some (.int .i64 u1) := (hB.cell (p := ⟨b, off + (k - 1) * 2, none⟩) hbl).trans c2
        have d3 : wr.cell? ⟨b, off + (k - 1) * 2 + 1, none⟩ = some (.int .i64 v1) := (hB.cell (p := ⟨b, off + (k - 1) * 2 + 1, none⟩) hbl).trans c3
        clear c2 c3
        have hblr : b < wr.heap.size := by omega
        obtain ⟨B, hBB⟩ := nm (decide (ltP (u1, v1) (u, v)))
        have hw1 : IntKind.i64.wrap ((k : Int) - 1) = ((k - 1 : Nat) : Int) := by rw [IntWalk.i64_in _ (by omega)]; omega
        have hw2 : k - 1 < n := by omega
        go_wp2_with fail
        have hkb : decide ((0 : Int) < (k : Int)) = true := by simp; omega
        have hkn : 0 < k := by omega
        refine wp_region_still_tail 9 (by kernel_rfl) (by kernel_rfl) ?_
        simp only [List.take_succ_cons, List.take_zero, List.drop_succ_cons, List.drop_zero]
        change wpStill _ _ (World.drew _) (fun a' => wpList _ _ _ _ a' (World.drew _)) _ _
        still_step
        still_step
        still_step
        still_step
        still_step
        still_step
        still_step
        still_step
        still_step
        refine wpStill_nil ?_
        clear d0 d1 d2 d3 hw1
        have hlen1 : k - 1 + 1 = k := by omega
        have htk : ps.take k = ps.take (k - 1) ++ [(u1, v1)] := by
          have := take_snocP hpj.out
          rwa [hlen1] at this
        have HTK := Lib.hid htk
        have HTS := Lib.hid (take_snocP hpk.out)
        clear htk hlen1
        cases B
        · have HE : Hid (r = false) := by
            show _ = _
            rw [hr.out]
            refine decide_eq_false fun ha => ?_
            obtain ⟨g1, g2⟩ := get_of hpk.out
            obtain ⟨g3, g4⟩ := get_of hpj.out
            have := asc_mono ha (show k - 1 < k by omega) g1
            rw [g2, g4] at this
            exact absurd this (by simpa using hBB.out.symm)
          go_wp2_with fail
          refine (less_is u1 v1 u v false (hidSymm hBB) _).mono ?_; rintro e w3 ⟨rfl, hB3⟩
          have hB4 : Below w.heap.size w w3 := (below_drewN (bNew hB (.cells #[.int .i64 u, .int .i64 v] 31)) 1).trans (hB3.mono (by simp; omega))
          go_wp2_with fail
          go_ret
          rw [HE.out]
          exact ⟨rfl, hB4⟩
        · have HI : Hid (Asc (ps.take (k + 1))) := by
            show Asc _
            rw [HTS.out, HTK.out]
            have h1 := hI.out
            rw [HTK.out] at h1
            exact asc_snoc h1 (by simpa using hBB.out.symm)
          go_wp2_with fail
          refine (less_is u1 v1 u v true (hidSymm hBB) _).mono ?_; rintro e w3 ⟨rfl, hB3⟩
          have hB4 : Below w.heap.size w w3 := (below_drewN (bNew hB (.cells #[.int .i64 u, .int .i64 v] 31)) 1).trans (hB3.mono (by simp; omega))
          go_wp2_with fail
          go_roundw
          case rel => exact ⟨k + 1, by omega, by go_num, hB4, HI⟩
          case measure => simp [intOf]; omega
    · obtain rfl : k = n := by omega
      have HE : Hid (r = true) := by
        show _ = _
        rw [hr.out]
        refine decide_eq_true ?_
        have := hI.out
        rwa [List.take_of_length_le (by rw [hn.out]; exact Nat.le_refl _)] at this
      go_wp2_with fail
      go_ret
      rw [HE.out]
      exact ⟨rfl, hB⟩


/-- May a name be? -/
def okD (x y : Int) : Bool := decide (1 ≤ x ∧ x ≤ 1099511627776 ∧ 1 ≤ y ∧ y ≤ 1099511627776)

set_option maxRecDepth 100000 in
set_option maxHeartbeats 400000 in
theorem may_any (x : Int) (r : Bool) (hr : Hid (r = decide (1 ≤ x ∧ x ≤ 1099511627776))) (w : World) :
    Calls Try.prog 65 #[.int .i64 x] w fun e w' => e = .returned (.bool r) ∧ w = w' := by
  have hr2 := hr.out
  by_cases h1 : 1 ≤ x
  · have h1' : decide (1 ≤ x) = true := decide_eq_true h1
    have h2 : decide (x ≤ 1099511627776) = r := by rw [hr2]; exact decide_eq_decide.2 ⟨fun h => ⟨h1, h⟩, fun h => h.2⟩
    clear hr2
    go_enter Try.func65, Try.ntmps65
    go_wp2_with fail
    go_ret
    exact ⟨rfl, rfl⟩
  · have h1' : decide (1 ≤ x) = false := decide_eq_false h1
    obtain rfl : r = false := by rw [hr2]; exact decide_eq_false (fun h => h1 h.1)
    clear hr2
    go_enter Try.func65, Try.ntmps65
    go_wp2_with fail
    go_ret
    exact ⟨rfl, rfl⟩

set_option maxRecDepth 100000 in
set_option maxHeartbeats 400000 in
theorem check_any (x y : Int) (r : Bool) (hr : Hid (r = okD x y)) (w : World) :
    Calls Try.prog 28 #[.agg #[.int .i64 x, .int .i64 y]] w fun e w' => e = .returned (.bool r) ∧ Below w.heap.size w w' := by
  obtain ⟨A, hA⟩ := nm (decide (1 ≤ x ∧ x ≤ 1099511627776))
  obtain ⟨B, hB⟩ := nm (decide (1 ≤ y ∧ y ≤ 1099511627776))
  have hR : Hid (r = (A && B)) := by
    show _ = _
    rw [hr.out, hA.out, hB.out, okD, ← Bool.decide_and]
    exact decide_eq_decide.2 ⟨fun h => ⟨⟨h.1, h.2.1⟩, h.2.2⟩, fun h => ⟨h.1.1, h.1.2, h.2⟩⟩
  cases A
  · obtain rfl : r = false := by rw [hR.out]; rfl
    go_enter Try.func28, Try.ntmps28
    go_wp2_with fail
    refine (may_any x false hA _).mono ?_; rintro e w2 ⟨rfl, rfl⟩
    go_wp2_with fail
    go_ret
    exact ⟨rfl, bOld _⟩
  · obtain rfl : r = B := by rw [hR.out]; simp
    go_enter Try.func28, Try.ntmps28
    go_wp2_with fail
    refine (may_any x true hA _).mono ?_; rintro e w2 ⟨rfl, rfl⟩
    go_wp2_with fail
    refine (may_any y r hB _).mono ?_; rintro e w2 ⟨rfl, rfl⟩
    go_wp2_with fail
    go_ret
    exact ⟨rfl, bOld _⟩


def bytesD (p : Int × Int) : List UInt8 := Pl.num p.1.toNat ++ Pl.num p.2.toNat
def namesD (ps : List (Int × Int)) : List UInt8 := ps.flatMap bytesD
def rowD (ps : List (Int × Int)) : List UInt8 := Pl.num ps.length ++ namesD ps
/-- Numbers as the program has them. -/
def InD (p : Int × Int) : Prop := p.1 ≤ 9223372036854775807 ∧ p.2 ≤ 9223372036854775807
theorem bytesD_le (p : Int × Int) (h : InD p) : (bytesD p).length ≤ 20 := by
  have h1 := Pl.num_length_le p.1.toNat (by have := h.1; omega)
  have h2 := Pl.num_length_le p.2.toNat (by have := h.2; omega)
  simp only [bytesD, List.length_append]; omega
theorem namesD_le : ∀ (ps : List (Int × Int)), (∀ p ∈ ps, InD p) → (namesD ps).length ≤ 20 * ps.length
  | [], _ => by simp [namesD]
  | p :: ps, h => by
    have h1 := namesD_le ps fun q hq => h q (by simp [hq])
    have h2 := bytesD_le p (h p (by simp))
    have e : namesD (p :: ps) = bytesD p ++ namesD ps := rfl
    rw [e, List.length_append, List.length_cons]; omega
theorem namesD_snoc (ps : List (Int × Int)) (p : Int × Int) : namesD (ps ++ [p]) = namesD ps ++ bytesD p := by simp [namesD]

theorem int_is (n : Int) (s : ByteArray) (hs : Hid (s = ofL (Pl.num n.toNat))) (w : World) (hn : n ≤ 9223372036854775807) :
    Calls Try.prog 55 #[.int .i64 n] w fun e w' => e = .returned (.string s) ∧ Below w.heap.size w w' := by rw [hs.out]; exact mint_int n w hn
set_option maxRecDepth 100000 in
set_option maxHeartbeats 1000000 in
theorem bytes_any (x y : Int) (w : World) (hx : x ≤ 9223372036854775807) (hy : y ≤ 9223372036854775807) (s : ByteArray) (hs : Hid (s = ofL (bytesD (x, y)))) :
    Calls Try.prog 59 #[.agg #[.int .i64 x, .int .i64 y]] w fun e w' => e = .returned (.string s) ∧ Below w.heap.size w w' := by
  obtain ⟨s1, h1⟩ := nm (ofL (Pl.num x.toNat))
  obtain ⟨s2, h2⟩ := nm (ofL (Pl.num y.toNat))
  have hsum : Hid (s1 ++ s2 = s) := by show _ = _; rw [hs.out, h1.out, h2.out, ofL_append]; rfl
  have l1 : s1.size ≤ 10 := by rw [h1.out, ofL_size]; exact Pl.num_length_le _ (by omega)
  have l2 : s2.size ≤ 10 := by rw [h2.out, ofL_size]; exact Pl.num_length_le _ (by omega)
  have hb0 : Blk (w.alloc (.cells #[.int .i64 x, .int .i64 y] 31)) w.heap.size #[.int .i64 x, .int .i64 y] 31 := Blk.new _ _ _
  obtain ⟨w1, hw1⟩ := nm (w.alloc (.cells #[.int .i64 x, .int .i64 y] 31))
  rw [← hw1.out] at hb0
  have l3 : s1.size + s2.size ≤ 9223372036854775807 := by omega
  have hadd := fun w : World => run_string_add_sum (P := Try.prog) w s1 s2 l3
  have hB0 : Below w.heap.size w w1 := by rw [hw1.out]; exact bOld _
  obtain ⟨p, hp⟩ := nm w.heap.size
  rw [← hp.out] at hb0
  have HF : Hid (∀ w' : World, Below w1.heap.size w1 w' → w'.cell? ⟨p, 0, none⟩ = some (.int .i64 x) ∧ w'.cell? ⟨p, 1, none⟩ = some (.int .i64 y)) := by
    intro w' h; exact ⟨(hb0.below h hb0.lt).cell 0, (hb0.below h hb0.lt).cell 1⟩
  have HB0 := Lib.hid hB0
  clear hB0 hb0
  obtain ⟨g1, g2⟩ := HF.out w1 (Below.refl _ _)
  have hBc : Below w1.heap.size w1 w1.drew := below_drewN (Below.refl _ _) 1
  go_enter Try.func59, Try.ntmps59
  go_wp2_with fail
  rw [← hp.out, ← hw1.out]
  go_region_held3 (fun w' => w'.cell? ⟨p, 0, none⟩ = some (.int .i64 x) ∧ w'.cell? ⟨p, 1, none⟩ = some (.int .i64 y)) (first | assumption | go_keep)
    (first
      | (go_at_call 55; (with_reducible refine (int_is x s1 h1 _ hx).mono ?_); rintro e w2 ⟨rfl, hB2⟩; have hBd := bNext hBc hB2; have g3 := HF.out _ hBd)
      | (go_at_call 55; (with_reducible refine (int_is y s2 h2 _ hy).mono ?_); rintro e w3 ⟨rfl, hB3⟩; have hBe := bNext hBd hB3; have g4 := HF.out _ hBe))
  go_wp2_with fail
  go_ret
  exact ⟨congrArg (fun t => Ending.returned (Value.string t)) hsum.out, bNext HB0.out hBe⟩

set_option maxRecDepth 100000 in
set_option maxHeartbeats 1000000 in
theorem row_any (ao : Option Addr) (ps : List (Int × Int)) (n cap : Nat) (hn : Hid (ps.length = n)) (hm : n ≤ 1000000) (hin : Hid (∀ p ∈ ps, InD p)) (w : World) (hs : SlP w ao ps) (s : ByteArray) (hss : Hid (s = ofL (rowD ps))) :
    Calls Try.prog 93 #[.slice ao n cap] w fun e w' => e = .returned (.string s) ∧ Below w.heap.size w w' := by
  have HS := Lib.hid hs
  clear hs
  obtain ⟨s0, h0⟩ := nm (ofL (Pl.num n))
  have l0 : s0.size ≤ 10 := by rw [h0.out, ofL_size]; exact Pl.num_length_le _ (by omega)
  go_enter Try.func93, Try.ntmps93
  go_wp2_with fail
  refine (int_is (n : Int) s0 h0 _ (by omega)).mono ?_; rintro e w1 ⟨rfl, hB1⟩
  go_wp2_with fail
  go_loopw [3, 11] (fun v i wr => ∃ (k : Nat) (t : ByteArray), k ≤ n ∧ i = .int .i64 (k : Int) ∧ v = .string t ∧ t.size ≤ 10 + 20 * k ∧ Below w.heap.size w wr ∧ Hid (t = s0 ++ ofL (namesD (ps.take k)))) (fun _ i _ => n - (intOf i).toNat)
  case atStart => exact ⟨0, s0, by omega, rfl, rfl, by omega, hB1, by show _ = _; rw [List.take_zero]; exact (append_nil s0).symm⟩
  case round =>
    obtain ⟨k, t, hk, rfl, rfl, ht, hB, hT⟩ := hrel
    by_cases hlt : k < n
    · obtain ⟨b, off, u, v, rfl, hbl, c0, c1, hpk⟩ := HS.out.get k (by rw [hn.out]; exact hlt)
      have d0 : wr.cell? ⟨b, off + k * 2, none⟩ = some (.int .i64 u) := (hB.cell (p := ⟨b, off + k * 2, none⟩) hbl).trans c0
      have d1 : wr.cell? ⟨b, off + k * 2 + 1, none⟩ = some (.int .i64 v) := (hB.cell (p := ⟨b, off + k * 2 + 1, none⟩) hbl).trans c1
      obtain ⟨q1, q2⟩ := hin.out _ (List.mem_of_getElem? hpk.out)
      simp only at q1 q2
      obtain ⟨s2, h2⟩ := nm (ofL (bytesD (u, v)))
      have l2 : s2.size ≤ 20 := by rw [h2.out, ofL_size]; exact bytesD_le _ ⟨q1, q2⟩
      have HT : Hid (t ++ s2 = s0 ++ ofL (namesD (ps.take (k + 1)))) := by
        show _ = _
        rw [hT.out, h2.out, take_snocP hpk.out, namesD_snoc, ← ofL_append, app_assoc]
      have hts : (t ++ s2).size ≤ 10 + 20 * (k + 1) := by rw [app_size]; omega
      clear c0 c1 hT
      go_wp2_with fail
      refine (bytes_any u v _ q1 q2 s2 h2).mono ?_; rintro e w3 ⟨rfl, hB3⟩
      clear d0 d1
      go_wp2_with fail
      go_roundw
      case rel => exact ⟨k + 1, t ++ s2, by omega, by go_num, rfl, hts, bNext (bNew hB _) hB3, HT⟩
      case measure => simp [intOf]; omega
    · obtain rfl : k = n := by omega
      have HE : Hid (t = s) := by
        show _ = _
        rw [hT.out, hss.out, h0.out, List.take_of_length_le (by rw [hn.out]; exact Nat.le_refl _), ofL_append, rowD, hn.out]
      go_wp2_with fail
      go_ret
      rw [HE.out]
      exact ⟨rfl, hB⟩
end Go.Proofs.Ytfpjdmplepepjaa

/-! WireL: What is said, as bytes: no two have the same. No program in sight. -/
namespace Go.Proofs.Ytfpjdmplepepjaa
open Go.RowKit

/-- All of what is said. -/
structure WL where
  k : Int
  f : Int
  s : Int
  p : Int
  fl : Int
  d0 : Int
  d1 : Int
  rc : Int
  lg : Int
  mark : ByteArray
  live : List Msg5
  bs : List Dot2
  cl : List Dot2
  tags : List Tag2
  view : List Peer3
def WL.nums (m : WL) : List Int := [m.k, m.f, m.s, m.p, m.fl, m.d0, m.d1, m.rc, m.lg]

def dotL (x : Dot2) : List UInt8 := Pl.num x.1.toNat ++ Pl.num x.2.toNat
def rowL {α : Type} (f : α → List UInt8) (xs : List α) : List UInt8 := Pl.num xs.length ++ xs.flatMap f
def msgL (m : Msg5) : List UInt8 := dotL (m.node, m.n) ++ (textL (bl m.queue) ++ (textL (bl m.body) ++ Pl.num m.count.toNat))
def tagL (t : Tag2) : List UInt8 := textL (bl t.1) ++ Pl.num t.2.toNat
def peerL (p : Peer3) : List UInt8 := Pl.num p.1.toNat ++ (Pl.num p.2.1.toNat ++ Pl.num p.2.2.toNat)
def ctxL (bs cl : List Dot2) : List UInt8 := rowL dotL bs ++ rowL dotL cl
def bagL (live : List Msg5) (bs cl : List Dot2) : List UInt8 := ctxL bs cl ++ rowL msgL live
def WL.bytes (m : WL) : List UInt8 := numsL m.nums ++ (textL (bl m.mark) ++ (bagL m.live m.bs m.cl ++ (rowL tagL m.tags ++ rowL peerL m.view)))

/-- Numbers that are not below 0. -/
def Up (z : Int) : Prop := 0 ≤ z ∧ z ≤ 9223372036854775807
def upDot (x : Dot2) : Prop := Up x.1 ∧ Up x.2
def upMsg (m : Msg5) : Prop := Up m.node ∧ Up m.n ∧ m.queue.size ≤ 1000000 ∧ m.body.size ≤ 1000000 ∧ Up m.count
def upTag (t : Tag2) : Prop := t.1.size ≤ 1000000 ∧ Up t.2
def upPeer (p : Peer3) : Prop := Up p.1 ∧ Up p.2.1 ∧ Up p.2.2
structure WL.Ups (m : WL) : Prop where
  nums : ∀ z ∈ m.nums, Up z
  mark : m.mark.size ≤ 1000000
  live : ∀ x ∈ m.live, upMsg x
  bs : ∀ x ∈ m.bs, upDot x
  cl : ∀ x ∈ m.cl, upDot x
  tags : ∀ x ∈ m.tags, upTag x
  view : ∀ x ∈ m.view, upPeer x
  many : m.live.length ≤ 1000000 ∧ m.bs.length ≤ 1000000 ∧ m.cl.length ≤ 1000000 ∧ m.tags.length ≤ 1000000 ∧ m.view.length ≤ 1000000

/-- Of two that are so, neither's bytes begin the other's. -/
def Tells {α : Type} (P : α → Prop) (f : α → List UInt8) : Prop := ∀ x y r t, P x → P y → f x ++ r = f y ++ t → x = y ∧ r = t
theorem tells_num : Tells Up (fun z : Int => Pl.num z.toNat) := by
  intro x y r t hx hy h
  obtain ⟨h1, h2⟩ := hx
  obtain ⟨h3, h4⟩ := hy
  obtain ⟨e, g⟩ := Pl.num_inj (by omega) (by omega) h
  exact ⟨by omega, g⟩
theorem tells_text : Tells (fun s : ByteArray => s.size ≤ 1000000) (fun s => textL (bl s)) := by
  intro x y r t hx hy h
  simp only [textL, List.append_assoc] at h
  obtain ⟨e, g⟩ := Pl.num_inj (by rw [bl_length]; omega) (by rw [bl_length]; omega) h
  obtain ⟨e1, e2⟩ := List.append_inj g e
  exact ⟨bl_inj e1, e2⟩
theorem tells_dot : Tells upDot dotL := by
  rintro ⟨x1, x2⟩ ⟨y1, y2⟩ r t ⟨hx1, hx2⟩ ⟨hy1, hy2⟩ h
  simp only [dotL, List.append_assoc] at h
  obtain ⟨e1, h⟩ := tells_num _ _ _ _ hx1 hy1 h
  obtain ⟨e2, h⟩ := tells_num _ _ _ _ hx2 hy2 h
  exact ⟨by rw [show x1 = y1 from e1, show x2 = y2 from e2], h⟩
theorem tells_tag : Tells upTag tagL := by
  rintro ⟨x1, x2⟩ ⟨y1, y2⟩ r t ⟨hx1, hx2⟩ ⟨hy1, hy2⟩ h
  simp only [tagL, List.append_assoc] at h
  obtain ⟨e1, h⟩ := tells_text _ _ _ _ hx1 hy1 h
  obtain ⟨e2, h⟩ := tells_num _ _ _ _ hx2 hy2 h
  exact ⟨by rw [show x1 = y1 from e1, show x2 = y2 from e2], h⟩
theorem tells_peer : Tells upPeer peerL := by
  rintro ⟨x1, x2, x3⟩ ⟨y1, y2, y3⟩ r t ⟨hx1, hx2, hx3⟩ ⟨hy1, hy2, hy3⟩ h
  simp only [peerL, List.append_assoc] at h
  obtain ⟨e1, h⟩ := tells_num _ _ _ _ hx1 hy1 h
  obtain ⟨e2, h⟩ := tells_num _ _ _ _ hx2 hy2 h
  obtain ⟨e3, h⟩ := tells_num _ _ _ _ hx3 hy3 h
  exact ⟨by rw [show x1 = y1 from e1, show x2 = y2 from e2, show x3 = y3 from e3], h⟩
theorem tells_msg : Tells upMsg msgL := by
  rintro ⟨x1, x2, x3, x4, x5⟩ ⟨y1, y2, y3, y4, y5⟩ r t ⟨hx1, hx2, hx3, hx4, hx5⟩ ⟨hy1, hy2, hy3, hy4, hy5⟩ h
  simp only [msgL, List.append_assoc] at h
  obtain ⟨e1, h⟩ := tells_dot _ _ _ _ (show upDot (x1, x2) from ⟨hx1, hx2⟩) (show upDot (y1, y2) from ⟨hy1, hy2⟩) h
  obtain ⟨e3, h⟩ := tells_text _ _ _ _ hx3 hy3 h
  obtain ⟨e4, h⟩ := tells_text _ _ _ _ hx4 hy4 h
  obtain ⟨e5, h⟩ := tells_num _ _ _ _ hx5 hy5 h
  simp only [Prod.mk.injEq] at e1
  exact ⟨by rw [e1.1, e1.2, show x3 = y3 from e3, show x4 = y4 from e4, show x5 = y5 from e5], h⟩
theorem tells_many {α : Type} {P : α → Prop} {f : α → List UInt8} (hf : Tells P f) : ∀ (xs ys : List α) (r t : List UInt8), xs.length = ys.length → (∀ x ∈ xs, P x) → (∀ x ∈ ys, P x) → xs.flatMap f ++ r = ys.flatMap f ++ t → xs = ys ∧ r = t
  | [], [], r, t, _, _, _, h => ⟨rfl, by simpa using h⟩
  | [], _ :: _, _, _, hl, _, _, _ => by simp at hl
  | _ :: _, [], _, _, hl, _, _, _ => by simp at hl
  | x :: xs, y :: ys, r, t, hl, hx, hy, h => by
    simp only [List.flatMap_cons, List.append_assoc] at h
    obtain ⟨e1, h⟩ := hf _ _ _ _ (hx x (by simp)) (hy y (by simp)) h
    obtain ⟨e2, h⟩ := tells_many hf xs ys r t (by simpa using hl) (fun z hz => hx z (by simp [hz])) (fun z hz => hy z (by simp [hz])) h
    exact ⟨by rw [e1, e2], h⟩
theorem tells_row {α : Type} {P : α → Prop} {f : α → List UInt8} (hf : Tells P f) : Tells (fun xs : List α => xs.length ≤ 1000000 ∧ ∀ x ∈ xs, P x) (rowL f) := by
  intro xs ys r t hx hy h
  obtain ⟨hx1, hx2⟩ := hx
  obtain ⟨hy1, hy2⟩ := hy
  simp only [rowL, List.append_assoc] at h
  obtain ⟨e, g⟩ := Pl.num_inj (by omega) (by omega) h
  exact tells_many hf xs ys r t e hx2 hy2 g
theorem intsL_row (zs : List Int) : numsL zs = rowL (fun z : Int => Pl.num z.toNat) zs := rfl
/-- Two that may be said have the same bytes just if they are the same. -/
theorem WL.bytes_one (a b : WL) (ha : a.Ups) (hb : b.Ups) (h : a.bytes = b.bytes) : a = b := by
  obtain ⟨a1, a2, a3, a4, a5, a6, a7, a8⟩ := ha
  obtain ⟨b1, b2, b3, b4, b5, b6, b7, b8⟩ := hb
  have h' : a.bytes ++ [] = b.bytes ++ [] := by rw [h]
  simp only [WL.bytes, bagL, ctxL, intsL_row, List.append_assoc] at h'
  obtain ⟨e1, h'⟩ := tells_row tells_num _ _ _ _ (show _ from ⟨by simp [WL.nums], a1⟩) (show _ from ⟨by simp [WL.nums], b1⟩) h'
  obtain ⟨e2, h'⟩ := tells_text _ _ _ _ a2 b2 h'
  obtain ⟨e3, h'⟩ := tells_row tells_dot _ _ _ _ (show _ from ⟨a8.2.1, a4⟩) (show _ from ⟨b8.2.1, b4⟩) h'
  obtain ⟨e4, h'⟩ := tells_row tells_dot _ _ _ _ (show _ from ⟨a8.2.2.1, a5⟩) (show _ from ⟨b8.2.2.1, b5⟩) h'
  obtain ⟨e5, h'⟩ := tells_row tells_msg _ _ _ _ (show _ from ⟨a8.1, a3⟩) (show _ from ⟨b8.1, b3⟩) h'
  obtain ⟨e6, h'⟩ := tells_row tells_tag _ _ _ _ (show _ from ⟨a8.2.2.2.1, a6⟩) (show _ from ⟨b8.2.2.2.1, b6⟩) h'
  obtain ⟨e7, h'⟩ := tells_row tells_peer _ _ _ _ (show _ from ⟨a8.2.2.2.2, a7⟩) (show _ from ⟨b8.2.2.2.2, b7⟩) h'
  simp only [WL.nums, List.cons.injEq, and_true] at e1
  obtain ⟨g1, g2, g3, g4, g5, g6, g7, g8, g9⟩ := e1
  cases a; cases b
  simp only at e2 e3 e4 e5 e6 e7 g1 g2 g3 g4 g5 g6 g7 g8 g9
  subst e2 e3 e4 e5 e6 e7 g1 g2 g3 g4 g5 g6 g7 g8 g9
  rfl

/-! ### How long -/
theorem num_le {z : Int} (h : Up z) : (Pl.num z.toNat).length ≤ 10 := Pl.num_length_le _ (by have := h.2; omega)
theorem textL_le {s : ByteArray} {n : Nat} (h : s.size ≤ n) (hn : n ≤ 1000000) : (textL (bl s)).length ≤ 10 + n := by
  have := Pl.num_length_le s.size (by omega)
  simp only [textL, List.length_append, bl_length]; omega
theorem flat_le {α : Type} {f : α → List UInt8} {m : Nat} : ∀ (xs : List α), (∀ x ∈ xs, (f x).length ≤ m) → (xs.flatMap f).length ≤ m * xs.length
  | [], _ => by simp
  | x :: xs, h => by
    have h1 := flat_le xs fun y hy => h y (by simp [hy])
    have h2 := h x (by simp)
    rw [List.flatMap_cons, List.length_append, List.length_cons, Nat.mul_add, Nat.mul_one]; omega
theorem rowL_le {α : Type} {f : α → List UInt8} {m : Nat} (xs : List α) (hx : xs.length ≤ 1000000) (h : ∀ x ∈ xs, (f x).length ≤ m) : (rowL f xs).length ≤ 10 + m * xs.length := by
  have h1 := flat_le xs h
  have h2 := Pl.num_length_le xs.length (by omega)
  simp only [rowL, List.length_append]; omega
theorem dotL_le {x : Dot2} (h : upDot x) : (dotL x).length ≤ 20 := by
  have h1 := num_le h.1
  have h2 := num_le h.2
  simp only [dotL, List.length_append]; omega
theorem peerL_le {x : Peer3} (h : upPeer x) : (peerL x).length ≤ 30 := by
  have h1 := num_le h.1
  have h2 := num_le h.2.1
  have h3 := num_le h.2.2
  simp only [peerL, List.length_append]; omega
theorem flat_take {α : Type} {f : α → List UInt8} {xs : List α} {k : Nat} {x : α} (h : xs[k]? = some x) : (xs.take (k + 1)).flatMap f = (xs.take k).flatMap f ++ f x := by
  obtain ⟨h1, h2⟩ := List.getElem?_eq_some_iff.1 h
  rw [List.take_succ_eq_append_getElem h1, List.flatMap_append, h2]
  simp
end Go.Proofs.Ytfpjdmplepepjaa

/-! WChk: What may be said. No program in sight. -/
namespace Go.Proofs.Ytfpjdmplepepjaa
open Go.RowKit Go.Lib

/-- The first n are so, and each is so towards the one ahead of it. -/
def Chk {α : Type} (g : α → Prop) (r : α → α → Prop) (xs : List α) (n : Nat) : Prop := ∀ i x, i < n → xs[i]? = some x → g x ∧ ∀ j y, i = j + 1 → xs[j]? = some y → r y x
section
variable {α : Type} {g : α → Prop} {r : α → α → Prop} {xs : List α}
theorem Chk.zero : Chk g r xs 0 := fun _ _ h => absurd h (Nat.not_lt_zero _)
theorem Chk.first {x : α} (hx : xs[0]? = some x) (hg : g x) : Chk g r xs 1 := by
  intro i y hi hy
  obtain rfl : i = 0 := by omega
  rw [hx] at hy
  obtain rfl := Option.some.inj hy
  exact ⟨hg, fun j _ hj => absurd hj (by omega)⟩
theorem Chk.next {m : Nat} {x y : α} (h : Chk g r xs (m + 1)) (hx : xs[m + 1]? = some x) (hg : g x) (hy : xs[m]? = some y) (hr : r y x) : Chk g r xs (m + 2) := by
  intro i z hi hz
  rcases Nat.lt_or_ge i (m + 1) with h1 | h1
  · exact h i z h1 hz
  · obtain rfl : i = m + 1 := by omega
    rw [hx] at hz
    obtain rfl := Option.some.inj hz
    refine ⟨hg, fun j u hj hu => ?_⟩
    obtain rfl : j = m := by omega
    rw [hy] at hu
    obtain rfl := Option.some.inj hu
    exact hr
theorem Chk.not_g {n i : Nat} {x : α} (hi : i < n) (hx : xs[i]? = some x) (hg : ¬ g x) : ¬ Chk g r xs n := fun h => hg (h i x hi hx).1
theorem Chk.not_r {n m : Nat} {x y : α} (hi : m + 1 < n) (hx : xs[m + 1]? = some x) (hy : xs[m]? = some y) (hr : ¬ r y x) : ¬ Chk g r xs n := fun h => hr ((h _ x hi hx).2 m y rfl hy)
theorem Chk.all {n : Nat} (h : Chk g r xs n) (hn : xs.length ≤ n) : ∀ x ∈ xs, g x := by
  intro x hx
  obtain ⟨i, hi, rfl⟩ := List.getElem_of_mem hx
  exact (h i _ (by omega) (List.getElem?_eq_getElem hi)).1
end

/-- Up to which number all of a node's were seen. -/
def uptoD (bs : List Dot2) (z : Int) : Int := match bs[lowD bs (z, 0)]? with
  | some p => if p.1 = z then p.2 else 0
  | none => 0
theorem uptoD_is {bs : List Dot2} {z : Int} : uptoD bs z = 0 ∨ ∃ p ∈ bs, uptoD bs z = p.2 := by
  unfold uptoD
  split
  · rename_i p h
    by_cases hz : p.1 = z
    · rw [if_pos hz]; exact .inr ⟨p, List.mem_of_getElem? h, rfl⟩
    · rw [if_neg hz]; exact .inl rfl
  · exact .inl rfl
def dotP (x : Dot2) : Prop := okD x.1 x.2 = true
theorem dotP.le {x : Dot2} (h : dotP x) : 1 ≤ x.1 ∧ x.1 ≤ 1099511627776 ∧ 1 ≤ x.2 ∧ x.2 ≤ 1099511627776 := by unfold dotP okD at h; simpa using h
theorem uptoD_le {bs : List Dot2} {z : Int} (h : ∀ x ∈ bs, dotP x) : 0 ≤ uptoD bs z ∧ uptoD bs z ≤ 1099511627776 := by
  rcases uptoD_is (bs := bs) (z := z) with e | ⟨p, hp, e⟩
  · rw [e]; decide
  · rw [e]
    have := (h p hp).le
    omega
def hasD (bs cl : List Dot2) (x : Dot2) : Prop := dotP x ∧ (x ∈ cl ∨ x.2 ≤ uptoD bs x.1)
structure CtxP (bs cl : List Dot2) : Prop where
  asc1 : Asc bs
  asc2 : Asc cl
  base : Chk dotP (fun y x => y.1 ≠ x.1) bs bs.length
  cloud : ∀ x ∈ cl, dotP x ∧ uptoD bs x.1 + 1 < x.2
def mayM (m : Msg5) : Prop := dotP (m.node, m.n) ∧ 0 < m.queue.size ∧ m.queue.size ≤ 40 ∧ m.body.size ≤ 1000 ∧ 0 ≤ m.count ∧ m.count ≤ 1048576
structure BagP (live : List Msg5) (bs cl : List Dot2) : Prop where
  ctx : CtxP bs cl
  live : Chk (fun m => mayM m ∧ hasD bs cl (m.node, m.n)) (fun y m => ltP (y.node, y.n) (m.node, m.n)) live live.length
def mayN (s : ByteArray) : Prop := 0 < s.size ∧ s.size ≤ 40
def ltS (a b : ByteArray) : Prop := Op.bytesLess a.toList b.toList = true
structure TagsP (l : List Tag2) : Prop where
  many : l.length ≤ 100
  each : Chk (fun t => mayN t.1 ∧ 1 ≤ t.2 ∧ t.2 ≤ 1048576) (fun y t => ltS y.1 t.1) l l.length
def mayV (p : Peer3) : Prop := (1 ≤ p.1 ∧ p.1 ≤ 1099511627776) ∧ (0 ≤ p.2.1 ∧ p.2.1 ≤ 1073741824) ∧ 0 ≤ p.2.2 ∧ p.2.2 ≤ 2
structure ViewP (l : List Peer3) : Prop where
  many : l.length ≤ 64
  each : Chk mayV (fun y p => y.1 < p.1) l l.length
def Btw (n l m : Int) : Prop := l ≤ n ∧ n ≤ m
structure WL.May (m : WL) : Prop where
  kind : Btw m.k 1 8
  frm : Btw m.f 1 1099511627776
  seq : Btw m.s 0 1099511627776
  part : Btw m.p 0 15
  flag : Btw m.fl 0 1
  dot : (m.d0, m.d1) = (0, 0) ∨ dotP (m.d0, m.d1)
  receipt : Btw m.rc 0 1099511627776
  long : Btw m.lg 0 1073741824
  mark : m.mark.size ≤ 8000
  bag : BagP m.live m.bs m.cl
  tags : TagsP m.tags
  view : ViewP m.view

theorem dotP.up {x : Dot2} (h : dotP x) : upDot x := by
  have := h.le
  exact ⟨⟨by omega, by omega⟩, by omega, by omega⟩
theorem mayM.up {m : Msg5} (h : mayM m) : upMsg m := by
  obtain ⟨h1, h2, h3, h4, h5, h6⟩ := h
  have := h1.le
  exact ⟨⟨by simp only at this; omega, by simp only at this; omega⟩, ⟨by simp only at this; omega, by simp only at this; omega⟩, by omega, by omega, by omega, by omega⟩
theorem mayV.up {p : Peer3} (h : mayV p) : upPeer p := by
  obtain ⟨⟨h1, h2⟩, ⟨h3, h4⟩, h5, h6⟩ := h
  exact ⟨⟨by omega, by omega⟩, ⟨by omega, by omega⟩, by omega, by omega⟩
/-- What may be said has no number below 0. -/
theorem WL.May.ups {m : WL} (h : m.May) (hl : m.live.length ≤ 1000000) (hb : m.bs.length ≤ 1000000) (hc : m.cl.length ≤ 1000000) : m.Ups where
  nums z hz := by
    obtain ⟨h1, h2⟩ := h.kind
    obtain ⟨h3, h4⟩ := h.frm
    obtain ⟨h5, h6⟩ := h.seq
    obtain ⟨h7, h8⟩ := h.part
    obtain ⟨h9, h10⟩ := h.flag
    obtain ⟨h11, h12⟩ := h.receipt
    obtain ⟨h13, h14⟩ := h.long
    have hd : Up m.d0 ∧ Up m.d1 := by
      rcases h.dot with e | e
      · simp only [Prod.mk.injEq] at e
        rw [e.1, e.2]
        exact ⟨⟨by decide, by decide⟩, by decide, by decide⟩
      · exact e.up
    simp only [WL.nums, List.mem_cons, List.not_mem_nil, or_false] at hz
    rcases hz with rfl | rfl | rfl | rfl | rfl | rfl | rfl | rfl | rfl
    · exact ⟨by omega, by omega⟩
    · exact ⟨by omega, by omega⟩
    · exact ⟨by omega, by omega⟩
    · exact ⟨by omega, by omega⟩
    · exact ⟨by omega, by omega⟩
    · exact hd.1
    · exact hd.2
    · exact ⟨by omega, by omega⟩
    · exact ⟨by omega, by omega⟩
  mark := Nat.le_trans h.mark (by decide)
  live x hx := (h.bag.live.all (Nat.le_refl _) x hx).1.up
  bs x hx := (h.bag.ctx.base.all (Nat.le_refl _) x hx).up
  cl x hx := (h.bag.ctx.cloud x hx).1.up
  tags x hx := by
    obtain ⟨⟨h1, h2⟩, h3, h4⟩ := h.tags.each.all (Nat.le_refl _) x hx
    exact ⟨by omega, by omega, by omega⟩
  view x hx := (h.view.each.all (Nat.le_refl _) x hx).up
  many := ⟨hl, hb, hc, Nat.le_trans h.tags.many (by decide), Nat.le_trans h.view.many (by decide)⟩
end Go.Proofs.Ytfpjdmplepepjaa

/-! WCtx: Contexts: up to which number all of a node's were seen; was a name seen. -/
namespace Go.Proofs.Ytfpjdmplepepjaa
open Go.RowKit

theorem takeL {l : List Oper} {i : Nat} {o : Oper} (h : l[i]? = some o) : (l.toArray)[i]? = some o := by simpa using h
theorem mem_lowD {l : List Dot2} (h : Asc l) (p : Dot2) : l[lowD l p]? = some p ↔ p ∈ l := by
  constructor
  · exact fun h => List.mem_of_getElem? h
  · intro hm
    obtain ⟨i, hi, e⟩ := List.getElem_of_mem hm
    have hg : l[i]? = some p := by rw [List.getElem?_eq_getElem hi, e]
    have : i = lowD l p := by
      refine lowD_of l p i (Nat.le_of_lt hi) (fun j hj => ?_) (fun j h1 h2 => asc_notlt h hg h2 h1 (ltP_irrefl p))
      have := asc_mono h hj hi
      rw [getElem!_pos l i hi, e] at this
      exact this
    rw [← this]; exact hg
theorem SlE.pairs {w : World} {ao : Option Addr} {ps : List Dot2} (h : SlE eDot 2 w ao ps) : SlP w ao ps := by
  intro k hk
  obtain ⟨b, off, h1, h2, h3⟩ := h k hk
  exact ⟨b, off, h1, h2, fun j p hj => ⟨h3 j p hj 0 _ rfl, h3 j p hj 1 _ rfl⟩⟩
theorem blkN {w w0 : World} {c : Array Value} {t : TypeId} {x : Nat} (h : w0 = w.alloc (.cells c t)) (hx : x = w.heap.size) : Blk w0 x c t := by rw [h, hx]; exact Blk.new _ _ _

set_option maxRecDepth 100000 in
set_option maxHeartbeats 4000000 in
theorem upto_any (ab ac : Option Addr) (nb kb nc kc : Nat) (bs : List Dot2) (hn : Hid (bs.length = nb)) (hm : nb ≤ 1000000) (z u : Int) (hu : Hid (u = uptoD bs z)) (ha : Hid (Asc bs)) (w : World) (hs : SlP w ab bs) :
    Calls Try.prog 99 #[.agg #[.slice ab nb kb, .slice ac nc kc], .int .i64 z] w fun e w' => e = .returned (.int .i64 u) ∧ Below w.heap.size w w' := by
  obtain ⟨w0, hw0⟩ := nm (w.alloc (.cells #[.slice ab nb kb, .slice ac nc kc] 25))
  obtain ⟨x, hx⟩ := nm w.heap.size
  have Kx : Hid (Blk w0 x #[.slice ab nb kb, .slice ac nc kc] 25) := blkN hw0.out hx.out
  have HB0 : Hid (Below w.heap.size w w0) := by rw [hw0.out]; exact bOld _
  have HS0 : Hid (SlP w0 ab bs) := hs.below HB0.out
  clear hs
  go_enter Try.func99, Try.ntmps99
  go_upto_region 1 with fail
  rw [← hw0.out, ← hx.out]
  have c0 : w0.cell? ⟨x, 0, none⟩ = some (.slice ab nb kb) := Kx.out.cell 0
  go_wp2_with fail
  refine (find_any ab bs nb kb hn z 0 _ HS0.out (by omega)).mono ?_
  rintro e w1 ⟨j, hj, rfl, hlow, hB1⟩
  replace Kx := Lib.hid (Kx.out.below hB1 Kx.out.lt)
  have HS1 : Hid (SlP w1 ab bs) := HS0.out.below hB1
  replace HB0 := Lib.hid (bNext HB0.out hB1)
  have HJ : Hid (j = lowD bs (z, 0)) := hlow ha.out
  have HU : Hid (u = match bs[j]? with | some p => if p.1 = z then p.2 else 0 | none => 0) := by show _ = _; rw [hu.out, HJ.out]; rfl
  clear hlow hB1 c0
  have c0 : w1.cell? ⟨x, 0, none⟩ = some (.slice ab nb kb) := Kx.out.cell 0
  by_cases hlt : j < nb
  · obtain ⟨b, off, u1, v1, rfl, hbl, d0, d1, hp⟩ := HS1.out.get j (by rw [hn.out]; exact hlt)
    by_cases hz : u1 = z
    · subst hz
      have hub : (u1 == u1) = true := by simp
      obtain rfl : u = v1 := by rw [HU.out, hp.out]; simp
      clear hj
      go_wp2_with fail
      go_ret
      exact ⟨rfl, HB0.out⟩
    · have hub : (u1 == z) = false := by simpa using hz
      obtain rfl : u = 0 := by rw [HU.out, hp.out]; simp [hz]
      clear hj
      go_wp2_with fail
      go_ret
      exact ⟨rfl, HB0.out⟩
  · have hdl : decide ((j : Int) < (nb : Int)) = false := decide_eq_false (by omega)
    obtain rfl : u = 0 := by rw [HU.out, List.getElem?_eq_none (by rw [hn.out]; omega)]
    clear hj
    go_wp2_with fail
    go_ret
    exact ⟨rfl, HB0.out⟩

set_option maxRecDepth 100000 in
set_option maxHeartbeats 4000000 in
theorem has_any (ab ac : Option Addr) (nb kb nc kc : Nat) (bs cl : List Dot2) (hn : Hid (bs.length = nb)) (hm : nb ≤ 1000000) (hn2 : Hid (cl.length = nc)) (hm2 : nc ≤ 1000000) (p q : Int) (ha : Hid (Asc bs)) (ha2 : Hid (Asc cl)) (r : Bool) (hr : Hid (r = true ↔ hasD bs cl (p, q))) (w : World) (hs : SlP w ab bs) (hs2 : SlP w ac cl) :
    Calls Try.prog 68 #[.agg #[.slice ab nb kb, .slice ac nc kc], .agg #[.int .i64 p, .int .i64 q]] w fun e w' => e = .returned (.bool r) ∧ Below w.heap.size w w' := by
  obtain ⟨wa, hwa⟩ := nm (w.alloc (.cells #[.slice ab nb kb, .slice ac nc kc] 25))
  obtain ⟨w0, hw0⟩ := nm (wa.alloc (.cells #[.int .i64 p, .int .i64 q] 31))
  obtain ⟨x, hx⟩ := nm w.heap.size
  obtain ⟨y, hy⟩ := nm wa.heap.size
  have Kx : Hid (Blk w0 x #[.slice ab nb kb, .slice ac nc kc] 25) := by show Blk _ _ _ _; rw [hw0.out]; exact (blkN hwa.out hx.out).alloc _
  have Ky : Hid (Blk w0 y #[.int .i64 p, .int .i64 q] 31) := blkN hw0.out hy.out
  have HB0 : Hid (Below w.heap.size w w0) := by rw [hw0.out, hwa.out]; exact bNew (bOld _) _
  have HS0 : Hid (SlP w0 ab bs) := hs.below HB0.out
  have HS2 : Hid (SlP w0 ac cl) := hs2.below HB0.out
  have hsz : x + 1 = y := by rw [hy.out, hwa.out, hx.out]; simp
  have HSZ := Lib.hid hsz
  clear hs hs2 hsz
  obtain ⟨C, hC⟩ := nm (okD p q)
  obtain ⟨u, hu⟩ := nm (uptoD bs p)
  go_enter Try.func68, Try.ntmps68
  go_upto_region 1 with fail
  rw [← hwa.out, ← hw0.out, ← hx.out]
  rw [HSZ.out]
  have c1 : w0.cell? ⟨x, 1, none⟩ = some (.slice ac nc kc) := Kx.out.cell 1
  have e0 : w0.cell? ⟨y, 0, none⟩ = some (.int .i64 p) := Ky.out.cell 0
  have e1 : w0.cell? ⟨y, 1, none⟩ = some (.int .i64 q) := Ky.out.cell 1
  go_wp2_with fail
  refine (find_any ac cl nc kc hn2 p q _ HS2.out (by omega)).mono ?_
  rintro e w1 ⟨j, hj, rfl, hlow, hB1⟩
  replace Kx := Lib.hid (Kx.out.below hB1 Kx.out.lt)
  replace Ky := Lib.hid (Ky.out.below hB1 Ky.out.lt)
  have HS1 : Hid (SlP w1 ab bs) := HS0.out.below hB1
  replace HB0 := Lib.hid (bNext HB0.out hB1)
  obtain ⟨I, hI⟩ := nm (decide (cl[j]? = some (p, q)))
  have HI : Hid (I = true ↔ (p, q) ∈ cl) := by
    show _ ↔ _
    rw [hI.out, hlow ha2.out, decide_eq_true_iff]
    exact mem_lowD ha2.out _
  rw [← hI.out]
  clear hlow hB1 c1 e0 e1 hj hI
  have c0 : w1.cell? ⟨x, 0, none⟩ = some (.slice ab nb kb) := Kx.out.cell 0
  have c1 : w1.cell? ⟨x, 1, none⟩ = some (.slice ac nc kc) := Kx.out.cell 1
  have e0 : w1.cell? ⟨y, 0, none⟩ = some (.int .i64 p) := Ky.out.cell 0
  have e1 : w1.cell? ⟨y, 1, none⟩ = some (.int .i64 q) := Ky.out.cell 1
  have KEEP : Hid (∀ wb : World, Below w1.drew.heap.size w1.drew wb → wb.cell? ⟨x, 0, none⟩ = some (.slice ab nb kb) ∧ wb.cell? ⟨x, 1, none⟩ = some (.slice ac nc kc) ∧ wb.cell? ⟨y, 0, none⟩ = some (.int .i64 p) ∧ wb.cell? ⟨y, 1, none⟩ = some (.int .i64 q)) := by
    show ∀ wb : World, _
    intro wb h
    have h1 := Blk.below (w := w1.drew) Kx.out h Kx.out.lt
    have h2 := Blk.below (w := w1.drew) Ky.out h Ky.out.lt
    exact ⟨h1.cell 0, h1.cell 1, h2.cell 0, h2.cell 1⟩
  cases C
  · obtain rfl : r = false := by
      cases r
      · rfl
      · have h := (hr.out.1 rfl).1
        rw [dotP, ← hC.out] at h
        cases h
    go_wp2_with fail
    refine wp_region_held_drew (S := fun w' => w'.cell? ⟨x, 0, none⟩ = some (.slice ab nb kb) ∧ w'.cell? ⟨x, 1, none⟩ = some (.slice ac nc kc) ∧ w'.cell? ⟨y, 0, none⟩ = some (.int .i64 p) ∧ w'.cell? ⟨y, 1, none⟩ = some (.int .i64 q)) (by kernel_rfl) (⟨c0, c1, e0, e1⟩) (fun hHeld => ?_)
    refine wpAnyH_take (i := 0) (v := ?_) (takeL rfl) (by kernel_rfl) (by kernel_rfl) (by kernel_rfl) (fun _ _ _ h => h) (Or.inl ⟨by rfl, ?_⟩) (by assumption) ?_
    rotate_left
    · (intro w hSw; (try dsimp only at hSw); first | (go_simp; done) | (go_simp; with_reducible rfl))
    try simp only [Act.put, List.setIfInBounds_toArray, List.set_cons_zero, List.set_cons_succ]
    refine wpAnyH_ready (rs := [1]) (by kernel_rfl) (by simp) ?_
    refine AllReadyH.cons (takeL rfl) (fun K hK => ?_) AllReadyH.nil
    go_simp
    refine (check_any p q false hC _).mono ?_; rintro e w2 ⟨rfl, hB2⟩
    go_wp2_with fail
    refine hK.out _ _ (KEEP.out _ hB2) (fun hHeld => ?_)
    clear hK K
    refine wpAnyH_take (i := 2) (v := ?_) (takeL rfl) (by kernel_rfl) (by kernel_rfl) (by kernel_rfl) (fun _ _ _ h => h) (Or.inl ⟨by rfl, ?_⟩) (by assumption) ?_
    rotate_left
    · (intro w hSw; (try dsimp only at hSw); first | (go_simp; done) | (go_simp; with_reducible rfl))
    try simp only [Act.put, List.setIfInBounds_toArray, List.set_cons_zero, List.set_cons_succ]
    refine wpAnyH_take (i := 3) (v := undef) (takeL rfl) (by kernel_rfl) (by kernel_rfl) (by kernel_rfl) (fun _ _ _ h => h) (Or.inr ⟨by rfl, rfl⟩) (by assumption) ?_
    try simp only [Act.put, List.setIfInBounds_toArray, List.set_cons_zero, List.set_cons_succ]
    refine wpAnyH_take (i := 4) (v := undef) (takeL rfl) (by kernel_rfl) (by kernel_rfl) (by kernel_rfl) (fun _ _ _ h => h) (Or.inr ⟨by rfl, rfl⟩) (by assumption) ?_
    try simp only [Act.put, List.setIfInBounds_toArray, List.set_cons_zero, List.set_cons_succ]
    refine wpAnyH_take (i := 5) (v := undef) (takeL rfl) (by kernel_rfl) (by kernel_rfl) (by kernel_rfl) (fun _ _ _ h => h) (Or.inr ⟨by rfl, rfl⟩) (by assumption) ?_
    try simp only [Act.put, List.setIfInBounds_toArray, List.set_cons_zero, List.set_cons_succ]
    refine wpAnyH_take (i := 6) (v := undef) (takeL rfl) (by kernel_rfl) (by kernel_rfl) (by kernel_rfl) (fun _ _ _ h => h) (Or.inr ⟨by rfl, rfl⟩) (by assumption) ?_
    try simp only [Act.put, List.setIfInBounds_toArray, List.set_cons_zero, List.set_cons_succ]
    refine wpAnyH_take (i := 7) (v := undef) (takeL rfl) (by kernel_rfl) (by kernel_rfl) (by kernel_rfl) (fun _ _ _ h => h) (Or.inr ⟨by rfl, rfl⟩) (by assumption) ?_
    try simp only [Act.put, List.setIfInBounds_toArray, List.set_cons_zero, List.set_cons_succ]
    refine wpAnyH_take (i := 8) (v := undef) (takeL rfl) (by kernel_rfl) (by kernel_rfl) (by kernel_rfl) (fun _ _ _ h => h) (Or.inr ⟨by rfl, rfl⟩) (by assumption) ?_
    try simp only [Act.put, List.setIfInBounds_toArray, List.set_cons_zero, List.set_cons_succ]
    refine wpAnyH_take (i := 9) (v := undef) (takeL rfl) (by kernel_rfl) (by kernel_rfl) (by kernel_rfl) (fun _ _ _ h => h) (Or.inr ⟨by rfl, rfl⟩) (by assumption) ?_
    try simp only [Act.put, List.setIfInBounds_toArray, List.set_cons_zero, List.set_cons_succ]
    refine wpAnyH_take (i := 10) (v := undef) (takeL rfl) (by kernel_rfl) (by kernel_rfl) (by kernel_rfl) (fun _ _ _ h => h) (Or.inr ⟨by rfl, rfl⟩) (by assumption) ?_
    try simp only [Act.put, List.setIfInBounds_toArray, List.set_cons_zero, List.set_cons_succ]
    refine wpAnyH_take (i := 11) (v := undef) (takeL rfl) (by kernel_rfl) (by kernel_rfl) (by kernel_rfl) (fun _ _ _ h => h) (Or.inr ⟨by rfl, rfl⟩) (by assumption) ?_
    try simp only [Act.put, List.setIfInBounds_toArray, List.set_cons_zero, List.set_cons_succ]
    refine wpAnyH_take (i := 12) (v := undef) (takeL rfl) (by kernel_rfl) (by kernel_rfl) (by kernel_rfl) (fun _ _ _ h => h) (Or.inr ⟨by rfl, rfl⟩) (by assumption) ?_
    try simp only [Act.put, List.setIfInBounds_toArray, List.set_cons_zero, List.set_cons_succ]
    refine wpAnyH_take (i := 13) (v := ?_) (takeL rfl) (by kernel_rfl) (by kernel_rfl) (by kernel_rfl) (fun _ _ _ h => h) (Or.inl ⟨by rfl, ?_⟩) (by assumption) ?_
    rotate_left
    · (intro w hSw; (try dsimp only at hSw); first | (go_simp; done) | (go_simp; with_reducible rfl))
    try simp only [Act.put, List.setIfInBounds_toArray, List.set_cons_zero, List.set_cons_succ]
    refine wpAnyH_take (i := 14) (v := ?_) (takeL rfl) (by kernel_rfl) (by kernel_rfl) (by kernel_rfl) (fun _ _ _ h => h) (Or.inl ⟨by rfl, ?_⟩) (by assumption) ?_
    rotate_left
    · (intro w hSw; (try dsimp only at hSw); first | (go_simp; done) | (go_simp; with_reducible rfl))
    try simp only [Act.put, List.setIfInBounds_toArray, List.set_cons_zero, List.set_cons_succ]
    refine wpAnyH_done (by kernel_rfl) ?_ _
    go_wp2_with fail
    go_ret
    exact ⟨rfl, bNext (bDrew HB0.out) hB2⟩
  · cases I
    · obtain ⟨D, hD⟩ := nm (decide (q ≤ u))
      obtain rfl : r = D := by
        rw [Bool.eq_iff_iff, hr.out, hD.out, decide_eq_true_iff, hu.out]
        constructor
        · rintro ⟨_, h | h⟩
          · exact absurd (HI.out.2 h) (by simp)
          · exact h
        · exact fun h => ⟨hC.out.symm, .inr h⟩
      have hqu : decide (q ≤ u) = r := hD.out.symm
      go_wp2_with fail
      refine wp_region_held_drew (S := fun w' => w'.cell? ⟨x, 0, none⟩ = some (.slice ab nb kb) ∧ w'.cell? ⟨x, 1, none⟩ = some (.slice ac nc kc) ∧ w'.cell? ⟨y, 0, none⟩ = some (.int .i64 p) ∧ w'.cell? ⟨y, 1, none⟩ = some (.int .i64 q)) (by kernel_rfl) (⟨c0, c1, e0, e1⟩) (fun hHeld => ?_)
      refine wpAnyH_take (i := 0) (v := ?_) (takeL rfl) (by kernel_rfl) (by kernel_rfl) (by kernel_rfl) (fun _ _ _ h => h) (Or.inl ⟨by rfl, ?_⟩) (by assumption) ?_
      rotate_left
      · (intro w hSw; (try dsimp only at hSw); first | (go_simp; done) | (go_simp; with_reducible rfl))
      try simp only [Act.put, List.setIfInBounds_toArray, List.set_cons_zero, List.set_cons_succ]
      refine wpAnyH_ready (rs := [1]) (by kernel_rfl) (by simp) ?_
      refine AllReadyH.cons (takeL rfl) (fun K hK => ?_) AllReadyH.nil
      go_simp
      refine (check_any p q true hC _).mono ?_; rintro e w2 ⟨rfl, hB2⟩
      go_wp2_with fail
      refine hK.out _ _ (KEEP.out _ hB2) (fun hHeld => ?_)
      clear hK K
      refine wpAnyH_take (i := 2) (v := ?_) (takeL rfl) (by kernel_rfl) (by kernel_rfl) (by kernel_rfl) (fun _ _ _ h => h) (Or.inl ⟨by rfl, ?_⟩) (by assumption) ?_
      rotate_left
      · (intro w hSw; (try dsimp only at hSw); first | (go_simp; done) | (go_simp; with_reducible rfl))
      try simp only [Act.put, List.setIfInBounds_toArray, List.set_cons_zero, List.set_cons_succ]
      refine wpAnyH_take (i := 3) (v := ?_) (takeL rfl) (by kernel_rfl) (by kernel_rfl) (by kernel_rfl) (fun _ _ _ h => h) (Or.inl ⟨by rfl, ?_⟩) (by assumption) ?_
      rotate_left
      · (intro w hSw; (try dsimp only at hSw); first | (go_simp; done) | (go_simp; with_reducible rfl))
      try simp only [Act.put, List.setIfInBounds_toArray, List.set_cons_zero, List.set_cons_succ]
      refine wpAnyH_take (i := 4) (v := ?_) (takeL rfl) (by kernel_rfl) (by kernel_rfl) (by kernel_rfl) (fun _ _ _ h => h) (Or.inl ⟨by rfl, ?_⟩) (by assumption) ?_
      rotate_left
      · (intro w hSw; (try dsimp only at hSw); first | (go_simp; done) | (go_simp; with_reducible rfl))
      try simp only [Act.put, List.setIfInBounds_toArray, List.set_cons_zero, List.set_cons_succ]
      refine wpAnyH_take (i := 5) (v := ?_) (takeL rfl) (by kernel_rfl) (by kernel_rfl) (by kernel_rfl) (fun _ _ _ h => h) (Or.inl ⟨by rfl, ?_⟩) (by assumption) ?_
      rotate_left
      · (intro w hSw; (try dsimp only at hSw); first | (go_simp; done) | (go_simp; with_reducible rfl))
      try simp only [Act.put, List.setIfInBounds_toArray, List.set_cons_zero, List.set_cons_succ]
      refine wpAnyH_take (i := 6) (v := ?_) (takeL rfl) (by kernel_rfl) (by kernel_rfl) (by kernel_rfl) (fun _ _ _ h => h) (Or.inl ⟨by rfl, ?_⟩) (by assumption) ?_
      rotate_left
      · (intro w hSw; (try dsimp only at hSw); first | (go_simp; done) | (go_simp; with_reducible rfl))
      try simp only [Act.put, List.setIfInBounds_toArray, List.set_cons_zero, List.set_cons_succ]
      refine wpAnyH_take (i := 7) (v := ?_) (takeL rfl) (by kernel_rfl) (by kernel_rfl) (by kernel_rfl) (fun _ _ _ h => h) (Or.inl ⟨by rfl, ?_⟩) (by assumption) ?_
      rotate_left
      · (intro w hSw; (try dsimp only at hSw); first | (go_simp; done) | (go_simp; with_reducible rfl))
      try simp only [Act.put, List.setIfInBounds_toArray, List.set_cons_zero, List.set_cons_succ]
      refine wpAnyH_take (i := 8) (v := ?_) (takeL rfl) (by kernel_rfl) (by kernel_rfl) (by kernel_rfl) (fun _ _ _ h => h) (Or.inl ⟨by rfl, ?_⟩) (by assumption) ?_
      rotate_left
      · (intro w hSw; (try dsimp only at hSw); first | (go_simp; done) | (go_simp; with_reducible rfl))
      try simp only [Act.put, List.setIfInBounds_toArray, List.set_cons_zero, List.set_cons_succ]
      refine wpAnyH_take (i := 9) (v := ?_) (takeL rfl) (by kernel_rfl) (by kernel_rfl) (by kernel_rfl) (fun _ _ _ h => h) (Or.inl ⟨by rfl, ?_⟩) (by assumption) ?_
      rotate_left
      · (intro w hSw; (try dsimp only at hSw); first | (go_simp; done) | (go_simp; with_reducible rfl))
      try simp only [Act.put, List.setIfInBounds_toArray, List.set_cons_zero, List.set_cons_succ]
      refine wpAnyH_ready (rs := [10]) (by kernel_rfl) (by simp) ?_
      refine AllReadyH.cons (takeL rfl) (fun K hK => ?_) AllReadyH.nil
      go_simp
      refine (upto_any ab ac nb kb nc kc bs hn hm p u hu ha _ (HS1.out.below (bNext (bDrew (Below.refl _ _)) hB2))).mono ?_; rintro e w3 ⟨rfl, hB3⟩
      go_wp2_with fail
      refine hK.out _ _ (KEEP.out _ (bNext hB2 hB3)) (fun hHeld => ?_)
      clear hK K
      refine wpAnyH_take (i := 11) (v := ?_) (takeL rfl) (by kernel_rfl) (by kernel_rfl) (by kernel_rfl) (fun _ _ _ h => h) (Or.inl ⟨by rfl, ?_⟩) (by assumption) ?_
      rotate_left
      · (intro w hSw; (try dsimp only at hSw); first | (go_simp; done) | (go_simp; with_reducible rfl))
      try simp only [Act.put, List.setIfInBounds_toArray, List.set_cons_zero, List.set_cons_succ]
      refine wpAnyH_take (i := 12) (v := ?_) (takeL rfl) (by kernel_rfl) (by kernel_rfl) (by kernel_rfl) (fun _ _ _ h => h) (Or.inl ⟨by rfl, ?_⟩) (by assumption) ?_
      rotate_left
      · (intro w hSw; (try dsimp only at hSw); first | (go_simp; done) | (go_simp; with_reducible rfl))
      try simp only [Act.put, List.setIfInBounds_toArray, List.set_cons_zero, List.set_cons_succ]
      refine wpAnyH_take (i := 13) (v := ?_) (takeL rfl) (by kernel_rfl) (by kernel_rfl) (by kernel_rfl) (fun _ _ _ h => h) (Or.inl ⟨by rfl, ?_⟩) (by assumption) ?_
      rotate_left
      · (intro w hSw; (try dsimp only at hSw); first | (go_simp; done) | (go_simp; with_reducible rfl))
      try simp only [Act.put, List.setIfInBounds_toArray, List.set_cons_zero, List.set_cons_succ]
      refine wpAnyH_take (i := 14) (v := ?_) (takeL rfl) (by kernel_rfl) (by kernel_rfl) (by kernel_rfl) (fun _ _ _ h => h) (Or.inl ⟨by rfl, ?_⟩) (by assumption) ?_
      rotate_left
      · (intro w hSw; (try dsimp only at hSw); first | (go_simp; done) | (go_simp; with_reducible rfl))
      try simp only [Act.put, List.setIfInBounds_toArray, List.set_cons_zero, List.set_cons_succ]
      refine wpAnyH_done (by kernel_rfl) ?_ _
      go_wp2_with fail
      go_ret
      exact ⟨rfl, bNext (bDrew HB0.out) (bNext hB2 hB3)⟩
    · obtain rfl : r = true := hr.out.2 ⟨hC.out.symm, .inl (HI.out.1 rfl)⟩
      go_wp2_with fail
      refine wp_region_held_drew (S := fun w' => w'.cell? ⟨x, 0, none⟩ = some (.slice ab nb kb) ∧ w'.cell? ⟨x, 1, none⟩ = some (.slice ac nc kc) ∧ w'.cell? ⟨y, 0, none⟩ = some (.int .i64 p) ∧ w'.cell? ⟨y, 1, none⟩ = some (.int .i64 q)) (by kernel_rfl) (⟨c0, c1, e0, e1⟩) (fun hHeld => ?_)
      refine wpAnyH_take (i := 0) (v := ?_) (takeL rfl) (by kernel_rfl) (by kernel_rfl) (by kernel_rfl) (fun _ _ _ h => h) (Or.inl ⟨by rfl, ?_⟩) (by assumption) ?_
      rotate_left
      · (intro w hSw; (try dsimp only at hSw); first | (go_simp; done) | (go_simp; with_reducible rfl))
      try simp only [Act.put, List.setIfInBounds_toArray, List.set_cons_zero, List.set_cons_succ]
      refine wpAnyH_ready (rs := [1]) (by kernel_rfl) (by simp) ?_
      refine AllReadyH.cons (takeL rfl) (fun K hK => ?_) AllReadyH.nil
      go_simp
      refine (check_any p q true hC _).mono ?_; rintro e w2 ⟨rfl, hB2⟩
      go_wp2_with fail
      refine hK.out _ _ (KEEP.out _ hB2) (fun hHeld => ?_)
      clear hK K
      refine wpAnyH_take (i := 2) (v := ?_) (takeL rfl) (by kernel_rfl) (by kernel_rfl) (by kernel_rfl) (fun _ _ _ h => h) (Or.inl ⟨by rfl, ?_⟩) (by assumption) ?_
      rotate_left
      · (intro w hSw; (try dsimp only at hSw); first | (go_simp; done) | (go_simp; with_reducible rfl))
      try simp only [Act.put, List.setIfInBounds_toArray, List.set_cons_zero, List.set_cons_succ]
      refine wpAnyH_take (i := 3) (v := ?_) (takeL rfl) (by kernel_rfl) (by kernel_rfl) (by kernel_rfl) (fun _ _ _ h => h) (Or.inl ⟨by rfl, ?_⟩) (by assumption) ?_
      rotate_left
      · (intro w hSw; (try dsimp only at hSw); first | (go_simp; done) | (go_simp; with_reducible rfl))
      try simp only [Act.put, List.setIfInBounds_toArray, List.set_cons_zero, List.set_cons_succ]
      refine wpAnyH_take (i := 4) (v := ?_) (takeL rfl) (by kernel_rfl) (by kernel_rfl) (by kernel_rfl) (fun _ _ _ h => h) (Or.inl ⟨by rfl, ?_⟩) (by assumption) ?_
      rotate_left
      · (intro w hSw; (try dsimp only at hSw); first | (go_simp; done) | (go_simp; with_reducible rfl))
      try simp only [Act.put, List.setIfInBounds_toArray, List.set_cons_zero, List.set_cons_succ]
      refine wpAnyH_take (i := 5) (v := undef) (takeL rfl) (by kernel_rfl) (by kernel_rfl) (by kernel_rfl) (fun _ _ _ h => h) (Or.inr ⟨by rfl, rfl⟩) (by assumption) ?_
      try simp only [Act.put, List.setIfInBounds_toArray, List.set_cons_zero, List.set_cons_succ]
      refine wpAnyH_take (i := 6) (v := undef) (takeL rfl) (by kernel_rfl) (by kernel_rfl) (by kernel_rfl) (fun _ _ _ h => h) (Or.inr ⟨by rfl, rfl⟩) (by assumption) ?_
      try simp only [Act.put, List.setIfInBounds_toArray, List.set_cons_zero, List.set_cons_succ]
      refine wpAnyH_take (i := 7) (v := undef) (takeL rfl) (by kernel_rfl) (by kernel_rfl) (by kernel_rfl) (fun _ _ _ h => h) (Or.inr ⟨by rfl, rfl⟩) (by assumption) ?_
      try simp only [Act.put, List.setIfInBounds_toArray, List.set_cons_zero, List.set_cons_succ]
      refine wpAnyH_take (i := 8) (v := undef) (takeL rfl) (by kernel_rfl) (by kernel_rfl) (by kernel_rfl) (fun _ _ _ h => h) (Or.inr ⟨by rfl, rfl⟩) (by assumption) ?_
      try simp only [Act.put, List.setIfInBounds_toArray, List.set_cons_zero, List.set_cons_succ]
      refine wpAnyH_take (i := 9) (v := undef) (takeL rfl) (by kernel_rfl) (by kernel_rfl) (by kernel_rfl) (fun _ _ _ h => h) (Or.inr ⟨by rfl, rfl⟩) (by assumption) ?_
      try simp only [Act.put, List.setIfInBounds_toArray, List.set_cons_zero, List.set_cons_succ]
      refine wpAnyH_take (i := 10) (v := undef) (takeL rfl) (by kernel_rfl) (by kernel_rfl) (by kernel_rfl) (fun _ _ _ h => h) (Or.inr ⟨by rfl, rfl⟩) (by assumption) ?_
      try simp only [Act.put, List.setIfInBounds_toArray, List.set_cons_zero, List.set_cons_succ]
      refine wpAnyH_take (i := 11) (v := undef) (takeL rfl) (by kernel_rfl) (by kernel_rfl) (by kernel_rfl) (fun _ _ _ h => h) (Or.inr ⟨by rfl, rfl⟩) (by assumption) ?_
      try simp only [Act.put, List.setIfInBounds_toArray, List.set_cons_zero, List.set_cons_succ]
      refine wpAnyH_take (i := 12) (v := ?_) (takeL rfl) (by kernel_rfl) (by kernel_rfl) (by kernel_rfl) (fun _ _ _ h => h) (Or.inl ⟨by rfl, ?_⟩) (by assumption) ?_
      rotate_left
      · (intro w hSw; (try dsimp only at hSw); first | (go_simp; done) | (go_simp; with_reducible rfl))
      try simp only [Act.put, List.setIfInBounds_toArray, List.set_cons_zero, List.set_cons_succ]
      refine wpAnyH_take (i := 13) (v := ?_) (takeL rfl) (by kernel_rfl) (by kernel_rfl) (by kernel_rfl) (fun _ _ _ h => h) (Or.inl ⟨by rfl, ?_⟩) (by assumption) ?_
      rotate_left
      · (intro w hSw; (try dsimp only at hSw); first | (go_simp; done) | (go_simp; with_reducible rfl))
      try simp only [Act.put, List.setIfInBounds_toArray, List.set_cons_zero, List.set_cons_succ]
      refine wpAnyH_take (i := 14) (v := ?_) (takeL rfl) (by kernel_rfl) (by kernel_rfl) (by kernel_rfl) (fun _ _ _ h => h) (Or.inl ⟨by rfl, ?_⟩) (by assumption) ?_
      rotate_left
      · (intro w hSw; (try dsimp only at hSw); first | (go_simp; done) | (go_simp; with_reducible rfl))
      try simp only [Act.put, List.setIfInBounds_toArray, List.set_cons_zero, List.set_cons_succ]
      refine wpAnyH_done (by kernel_rfl) ?_ _
      go_wp2_with fail
      go_ret
      exact ⟨rfl, bNext (bDrew HB0.out) hB2⟩
end Go.Proofs.Ytfpjdmplepepjaa

/-! WCtxCheck: Contexts: may one be. -/
namespace Go.Proofs.Ytfpjdmplepepjaa
open Go.RowKit

/-- OK, or ErrArg. -/
def errno : Bool → Int
  | true => 0
  | false => 1
theorem notB {r : Bool} {p : Prop} (h : r = true ↔ p) (hn : ¬ p) : r = false := by
  cases r
  · rfl
  · exact absurd (h.1 rfl) hn

set_option maxRecDepth 100000 in
set_option maxHeartbeats 4000000 in
theorem ctxcheck_any (ab ac : Option Addr) (nb kb nc kc : Nat) (bs cl : List Dot2) (hn : Hid (bs.length = nb)) (hm : nb ≤ 1000000) (hn2 : Hid (cl.length = nc)) (hm2 : nc ≤ 1000000) (r : Bool) (hr : Hid (r = true ↔ CtxP bs cl)) (E : Int) (hE : Hid (E = errno r)) (w : World) (hs : SlP w ab bs) (hs2 : SlP w ac cl) :
    Calls Try.prog 66 #[.agg #[.slice ab nb kb, .slice ac nc kc]] w fun e w' => e = .returned (.int .i64 E) ∧ Below w.heap.size w w' := by
  obtain ⟨w0, hw0⟩ := nm (w.alloc (.cells #[.slice ab nb kb, .slice ac nc kc] 25))
  obtain ⟨x, hx⟩ := nm w.heap.size
  have Kx : Hid (Blk w0 x #[.slice ab nb kb, .slice ac nc kc] 25) := blkN hw0.out hx.out
  have HB0 : Hid (Below w.heap.size w w0) := by rw [hw0.out]; exact bOld _
  have HS1 : Hid (SlP w0 ab bs) := hs.below HB0.out
  have HS2 : Hid (SlP w0 ac cl) := hs2.below HB0.out
  clear hs hs2
  obtain ⟨A1, hA1⟩ := nm (decide (Asc bs))
  obtain ⟨A2, hA2⟩ := nm (decide (Asc cl))
  go_enter Try.func66, Try.ntmps66
  go_upto_region 1 with fail
  rw [← hw0.out, ← hx.out]
  have c0 : w0.cell? ⟨x, 0, none⟩ = some (.slice ab nb kb) := Kx.out.cell 0
  go_wp2_with fail
  refine (rises_any ab bs nb kb hn (by omega) _ HS1.out A1 hA1).mono ?_; rintro e w1 ⟨rfl, hB1⟩
  replace Kx := Lib.hid (Kx.out.below hB1 Kx.out.lt)
  replace HB0 := Lib.hid (bNext HB0.out hB1)
  replace HS1 := Lib.hid (HS1.out.below hB1)
  replace HS2 := Lib.hid (HS2.out.below hB1)
  clear hB1 c0 hw0
  cases A1
  · obtain rfl : r = false := notB hr.out fun h => by have := hA1.out; rw [decide_eq_true h.asc1] at this; cases this
    obtain rfl := hE.out
    go_wp2_with fail
    go_ret
    exact ⟨rfl, HB0.out⟩
  have c1 : w1.cell? ⟨x, 1, none⟩ = some (.slice ac nc kc) := Kx.out.cell 1
  go_wp2_with fail
  refine (rises_any ac cl nc kc hn2 (by omega) _ HS2.out A2 hA2).mono ?_; rintro e w2 ⟨rfl, hB1⟩
  replace Kx := Lib.hid (Kx.out.below hB1 Kx.out.lt)
  replace HB0 := Lib.hid (bNext HB0.out hB1)
  replace HS1 := Lib.hid (HS1.out.below hB1)
  replace HS2 := Lib.hid (HS2.out.below hB1)
  clear hB1 c1
  cases A2
  · obtain rfl : r = false := notB hr.out fun h => by have := hA2.out; rw [decide_eq_true h.asc2] at this; cases this
    obtain rfl := hE.out
    go_wp2_with fail
    go_ret
    exact ⟨rfl, HB0.out⟩
  have HA1 : Hid (Asc bs) := by show Asc _; simpa using hA1.out.symm
  have HA2 : Hid (Asc cl) := by show Asc _; simpa using hA2.out.symm
  have c0 : w2.cell? ⟨x, 0, none⟩ = some (.slice ab nb kb) := Kx.out.cell 0
  go_wp2_with fail
  clear c0
  go_loopw [20] (fun i wr => ∃ k : Nat, k ≤ nb ∧ i = .int .i64 (k : Int) ∧ Below w2.heap.size w2 wr ∧ Hid (Chk dotP (fun y x => y.1 ≠ x.1) bs k)) (fun i _ => nb - (intOf i).toNat)
  case atStart => exact ⟨0, by omega, rfl, Below.refl _ _, Lib.hid Chk.zero⟩
  case round =>
    obtain ⟨k, hk, rfl, hB, hI⟩ := hrel
    by_cases hlt : k < nb
    · obtain ⟨b, off, p, q, rfl, hbl, d0, d1, hp⟩ := (HS1.out.below hB).get k (by rw [hn.out]; exact hlt)
      obtain ⟨y, hy⟩ := nm wr.heap.size
      obtain ⟨w3, hw3⟩ := nm (wr.alloc (.cells #[.int .i64 p, .int .i64 q] 31))
      have Ky : Hid (Blk w3 y #[.int .i64 p, .int .i64 q] 31) := blkN hw3.out hy.out
      have Kx3 : Hid (Blk w3 x #[.slice (some ⟨b, off, none⟩) nb kb, .slice ac nc kc] 25) := by show Blk _ _ _ _; rw [hw3.out]; exact (Kx.out.below hB Kx.out.lt).alloc _
      have HB3 : Hid (Below w2.heap.size w2 w3) := by rw [hw3.out]; exact bNew hB _
      have HB03 : Hid (Below w.heap.size w w3) := bNext HB0.out HB3.out
      obtain ⟨C, hC⟩ := nm (okD p q)
      have c0 : w3.cell? ⟨x, 0, none⟩ = some (.slice (some ⟨b, off, none⟩) nb kb) := Kx3.out.cell 0
      have e0 : w3.cell? ⟨y, 0, none⟩ = some (.int .i64 p) := Ky.out.cell 0
      have e1 : w3.cell? ⟨y, 1, none⟩ = some (.int .i64 q) := Ky.out.cell 1
      clear hB
      cases C
      · obtain rfl : r = false := notB hr.out fun h => Chk.not_g (by rw [hn.out]; exact hlt) hp.out (by unfold dotP; rw [← hC.out]; simp) h.base
        obtain rfl := hE.out
        have KEEP : Hid (∀ wb : World, Below w3.drew.heap.size w3.drew wb → wb.cell? ⟨x, 0, none⟩ = some (.slice (some ⟨b, off, none⟩) nb kb) ∧ wb.cell? ⟨y, 0, none⟩ = some (.int .i64 p) ∧ wb.cell? ⟨y, 1, none⟩ = some (.int .i64 q)) := by
          show ∀ wb : World, _
          intro wb h
          have h1 := Blk.below (w := w3.drew) Kx3.out h Kx3.out.lt
          have h2 := Blk.below (w := w3.drew) Ky.out h Ky.out.lt
          exact ⟨h1.cell 0, h2.cell 0, h2.cell 1⟩
        go_wp2_with fail
        rw [← hw3.out, ← hy.out]
        refine wp_region_noPanic ?_
        refine wp_region_held_drew (S := fun w' => w'.cell? ⟨x, 0, none⟩ = some (.slice (some ⟨b, off, none⟩) nb kb) ∧ w'.cell? ⟨y, 0, none⟩ = some (.int .i64 p) ∧ w'.cell? ⟨y, 1, none⟩ = some (.int .i64 q)) (by kernel_rfl) (⟨c0, e0, e1⟩) (fun hHeld => ?_)
        refine wpAnyH_take (i := 0) (v := ?_) (takeL rfl) (by kernel_rfl) (by kernel_rfl) (by kernel_rfl) (fun _ _ _ h => h) (Or.inl ⟨by rfl, ?_⟩) (by assumption) ?_
        rotate_left
        · (intro w hSw; (try dsimp only at hSw); first | (go_simp; done) | (go_simp; with_reducible rfl))
        try simp only [Act.put, List.setIfInBounds_toArray, List.set_cons_zero, List.set_cons_succ]
        refine wpAnyH_ready (rs := [1]) (by kernel_rfl) (by simp) ?_
        refine AllReadyH.cons (takeL rfl) (fun K hK => ?_) AllReadyH.nil
        go_simp
        refine (check_any p q false hC _).mono ?_; rintro e w4 ⟨rfl, hB4⟩
        go_wp2_with fail
        refine hK.out _ _ (KEEP.out _ hB4) (fun hHeld => ?_)
        clear hK K
        refine wpAnyH_take (i := 2) (v := ?_) (takeL rfl) (by kernel_rfl) (by kernel_rfl) (by kernel_rfl) (fun _ _ _ h => h) (Or.inl ⟨by rfl, ?_⟩) (by assumption) ?_
        rotate_left
        · (intro w hSw; (try dsimp only at hSw); first | (go_simp; done) | (go_simp; with_reducible rfl))
        try simp only [Act.put, List.setIfInBounds_toArray, List.set_cons_zero, List.set_cons_succ]
        refine wpAnyH_take (i := 3) (v := ?_) (takeL rfl) (by kernel_rfl) (by kernel_rfl) (by kernel_rfl) (fun _ _ _ h => h) (Or.inl ⟨by rfl, ?_⟩) (by assumption) ?_
        rotate_left
        · (intro w hSw; (try dsimp only at hSw); first | (go_simp; done) | (go_simp; with_reducible rfl))
        try simp only [Act.put, List.setIfInBounds_toArray, List.set_cons_zero, List.set_cons_succ]
        refine wpAnyH_take (i := 4) (v := undef) (takeL rfl) (by kernel_rfl) (by kernel_rfl) (by kernel_rfl) (fun _ _ _ h => h) (Or.inr ⟨by rfl, rfl⟩) (by assumption) ?_
        try simp only [Act.put, List.setIfInBounds_toArray, List.set_cons_zero, List.set_cons_succ]
        refine wpAnyH_take (i := 5) (v := undef) (takeL rfl) (by kernel_rfl) (by kernel_rfl) (by kernel_rfl) (fun _ _ _ h => h) (Or.inr ⟨by rfl, rfl⟩) (by assumption) ?_
        try simp only [Act.put, List.setIfInBounds_toArray, List.set_cons_zero, List.set_cons_succ]
        refine wpAnyH_take (i := 6) (v := undef) (takeL rfl) (by kernel_rfl) (by kernel_rfl) (by kernel_rfl) (fun _ _ _ h => h) (Or.inr ⟨by rfl, rfl⟩) (by assumption) ?_
        try simp only [Act.put, List.setIfInBounds_toArray, List.set_cons_zero, List.set_cons_succ]
        refine wpAnyH_take (i := 7) (v := undef) (takeL rfl) (by kernel_rfl) (by kernel_rfl) (by kernel_rfl) (fun _ _ _ h => h) (Or.inr ⟨by rfl, rfl⟩) (by assumption) ?_
        try simp only [Act.put, List.setIfInBounds_toArray, List.set_cons_zero, List.set_cons_succ]
        refine wpAnyH_take (i := 8) (v := undef) (takeL rfl) (by kernel_rfl) (by kernel_rfl) (by kernel_rfl) (fun _ _ _ h => h) (Or.inr ⟨by rfl, rfl⟩) (by assumption) ?_
        try simp only [Act.put, List.setIfInBounds_toArray, List.set_cons_zero, List.set_cons_succ]
        refine wpAnyH_take (i := 9) (v := undef) (takeL rfl) (by kernel_rfl) (by kernel_rfl) (by kernel_rfl) (fun _ _ _ h => h) (Or.inr ⟨by rfl, rfl⟩) (by assumption) ?_
        try simp only [Act.put, List.setIfInBounds_toArray, List.set_cons_zero, List.set_cons_succ]
        refine wpAnyH_take (i := 10) (v := undef) (takeL rfl) (by kernel_rfl) (by kernel_rfl) (by kernel_rfl) (fun _ _ _ h => h) (Or.inr ⟨by rfl, rfl⟩) (by assumption) ?_
        try simp only [Act.put, List.setIfInBounds_toArray, List.set_cons_zero, List.set_cons_succ]
        refine wpAnyH_take (i := 11) (v := undef) (takeL rfl) (by kernel_rfl) (by kernel_rfl) (by kernel_rfl) (fun _ _ _ h => h) (Or.inr ⟨by rfl, rfl⟩) (by assumption) ?_
        try simp only [Act.put, List.setIfInBounds_toArray, List.set_cons_zero, List.set_cons_succ]
        refine wpAnyH_take (i := 12) (v := undef) (takeL rfl) (by kernel_rfl) (by kernel_rfl) (by kernel_rfl) (fun _ _ _ h => h) (Or.inr ⟨by rfl, rfl⟩) (by assumption) ?_
        try simp only [Act.put, List.setIfInBounds_toArray, List.set_cons_zero, List.set_cons_succ]
        refine wpAnyH_take (i := 13) (v := undef) (takeL rfl) (by kernel_rfl) (by kernel_rfl) (by kernel_rfl) (fun _ _ _ h => h) (Or.inr ⟨by rfl, rfl⟩) (by assumption) ?_
        try simp only [Act.put, List.setIfInBounds_toArray, List.set_cons_zero, List.set_cons_succ]
        refine wpAnyH_take (i := 14) (v := undef) (takeL rfl) (by kernel_rfl) (by kernel_rfl) (by kernel_rfl) (fun _ _ _ h => h) (Or.inr ⟨by rfl, rfl⟩) (by assumption) ?_
        try simp only [Act.put, List.setIfInBounds_toArray, List.set_cons_zero, List.set_cons_succ]
        refine wpAnyH_take (i := 15) (v := undef) (takeL rfl) (by kernel_rfl) (by kernel_rfl) (by kernel_rfl) (fun _ _ _ h => h) (Or.inr ⟨by rfl, rfl⟩) (by assumption) ?_
        try simp only [Act.put, List.setIfInBounds_toArray, List.set_cons_zero, List.set_cons_succ]
        refine wpAnyH_take (i := 16) (v := undef) (takeL rfl) (by kernel_rfl) (by kernel_rfl) (by kernel_rfl) (fun _ _ _ h => h) (Or.inr ⟨by rfl, rfl⟩) (by assumption) ?_
        try simp only [Act.put, List.setIfInBounds_toArray, List.set_cons_zero, List.set_cons_succ]
        refine wpAnyH_take (i := 17) (v := undef) (takeL rfl) (by kernel_rfl) (by kernel_rfl) (by kernel_rfl) (fun _ _ _ h => h) (Or.inr ⟨by rfl, rfl⟩) (by assumption) ?_
        try simp only [Act.put, List.setIfInBounds_toArray, List.set_cons_zero, List.set_cons_succ]
        refine wpAnyH_take (i := 18) (v := ?_) (takeL rfl) (by kernel_rfl) (by kernel_rfl) (by kernel_rfl) (fun _ _ _ h => h) (Or.inl ⟨by rfl, ?_⟩) (by assumption) ?_
        rotate_left
        · (intro w hSw; (try dsimp only at hSw); first | (go_simp; done) | (go_simp; with_reducible rfl))
        try simp only [Act.put, List.setIfInBounds_toArray, List.set_cons_zero, List.set_cons_succ]
        refine wpAnyH_done (by kernel_rfl) ?_ _
        refine NoPanic.normal ?_
        go_wp2_with fail
        go_ret
        exact ⟨rfl, bNext (bDrew HB03.out) hB4⟩
      · by_cases hk0 : k = 0
        · have hk2 : decide (0 < k) = false := decide_eq_false (by omega)
          have hk3 : decide ((0 : Int) < (k : Int)) = false := decide_eq_false (by omega)
          have HI : Hid (Chk dotP (fun y x => y.1 ≠ x.1) bs (k + 1)) := by
            show Chk _ _ _ _
            subst hk0
            exact Chk.first hp.out hC.out.symm
          clear hk0
          have KEEP : Hid (∀ wb : World, Below w3.drew.heap.size w3.drew wb → wb.cell? ⟨x, 0, none⟩ = some (.slice (some ⟨b, off, none⟩) nb kb) ∧ wb.cell? ⟨y, 0, none⟩ = some (.int .i64 p) ∧ wb.cell? ⟨y, 1, none⟩ = some (.int .i64 q)) := by
            show ∀ wb : World, _
            intro wb h
            have h1 := Blk.below (w := w3.drew) Kx3.out h Kx3.out.lt
            have h2 := Blk.below (w := w3.drew) Ky.out h Ky.out.lt
            exact ⟨h1.cell 0, h2.cell 0, h2.cell 1⟩
          go_wp2_with fail
          rw [← hw3.out, ← hy.out]
          refine wp_region_noPanic ?_
          refine wp_region_held_drew (S := fun w' => w'.cell? ⟨x, 0, none⟩ = some (.slice (some ⟨b, off, none⟩) nb kb) ∧ w'.cell? ⟨y, 0, none⟩ = some (.int .i64 p) ∧ w'.cell? ⟨y, 1, none⟩ = some (.int .i64 q)) (by kernel_rfl) (⟨c0, e0, e1⟩) (fun hHeld => ?_)
          refine wpAnyH_take (i := 0) (v := ?_) (takeL rfl) (by kernel_rfl) (by kernel_rfl) (by kernel_rfl) (fun _ _ _ h => h) (Or.inl ⟨by rfl, ?_⟩) (by assumption) ?_
          rotate_left
          · (intro w hSw; (try dsimp only at hSw); first | (go_simp; done) | (go_simp; with_reducible rfl))
          try simp only [Act.put, List.setIfInBounds_toArray, List.set_cons_zero, List.set_cons_succ]
          refine wpAnyH_ready (rs := [1]) (by kernel_rfl) (by simp) ?_
          refine AllReadyH.cons (takeL rfl) (fun K hK => ?_) AllReadyH.nil
          go_simp
          refine (check_any p q true hC _).mono ?_; rintro e w4 ⟨rfl, hB4⟩
          go_wp2_with fail
          refine hK.out _ _ (KEEP.out _ hB4) (fun hHeld => ?_)
          clear hK K
          refine wpAnyH_take (i := 2) (v := ?_) (takeL rfl) (by kernel_rfl) (by kernel_rfl) (by kernel_rfl) (fun _ _ _ h => h) (Or.inl ⟨by rfl, ?_⟩) (by assumption) ?_
          rotate_left
          · (intro w hSw; (try dsimp only at hSw); first | (go_simp; done) | (go_simp; with_reducible rfl))
          try simp only [Act.put, List.setIfInBounds_toArray, List.set_cons_zero, List.set_cons_succ]
          refine wpAnyH_take (i := 3) (v := ?_) (takeL rfl) (by kernel_rfl) (by kernel_rfl) (by kernel_rfl) (fun _ _ _ h => h) (Or.inl ⟨by rfl, ?_⟩) (by assumption) ?_
          rotate_left
          · (intro w hSw; (try dsimp only at hSw); first | (go_simp; done) | (go_simp; with_reducible rfl))
          try simp only [Act.put, List.setIfInBounds_toArray, List.set_cons_zero, List.set_cons_succ]
          refine wpAnyH_take (i := 4) (v := ?_) (takeL rfl) (by kernel_rfl) (by kernel_rfl) (by kernel_rfl) (fun _ _ _ h => h) (Or.inl ⟨by rfl, ?_⟩) (by assumption) ?_
          rotate_left
          · (intro w hSw; (try dsimp only at hSw); first | (go_simp; done) | (go_simp; with_reducible rfl))
          try simp only [Act.put, List.setIfInBounds_toArray, List.set_cons_zero, List.set_cons_succ]
          refine wpAnyH_take (i := 5) (v := ?_) (takeL rfl) (by kernel_rfl) (by kernel_rfl) (by kernel_rfl) (fun _ _ _ h => h) (Or.inl ⟨by rfl, ?_⟩) (by assumption) ?_
          rotate_left
          · (intro w hSw; (try dsimp only at hSw); first | (go_simp; done) | (go_simp; with_reducible rfl))
          try simp only [Act.put, List.setIfInBounds_toArray, List.set_cons_zero, List.set_cons_succ]
          refine wpAnyH_take (i := 6) (v := ?_) (takeL rfl) (by kernel_rfl) (by kernel_rfl) (by kernel_rfl) (fun _ _ _ h => h) (Or.inl ⟨by rfl, ?_⟩) (by assumption) ?_
          rotate_left
          · (intro w hSw; (try dsimp only at hSw); first | (go_simp; done) | (go_simp; with_reducible rfl))
          try simp only [Act.put, List.setIfInBounds_toArray, List.set_cons_zero, List.set_cons_succ]
          refine wpAnyH_take (i := 7) (v := undef) (takeL rfl) (by kernel_rfl) (by kernel_rfl) (by kernel_rfl) (fun _ _ _ h => h) (Or.inr ⟨by rfl, rfl⟩) (by assumption) ?_
          try simp only [Act.put, List.setIfInBounds_toArray, List.set_cons_zero, List.set_cons_succ]
          refine wpAnyH_take (i := 8) (v := undef) (takeL rfl) (by kernel_rfl) (by kernel_rfl) (by kernel_rfl) (fun _ _ _ h => h) (Or.inr ⟨by rfl, rfl⟩) (by assumption) ?_
          try simp only [Act.put, List.setIfInBounds_toArray, List.set_cons_zero, List.set_cons_succ]
          refine wpAnyH_take (i := 9) (v := undef) (takeL rfl) (by kernel_rfl) (by kernel_rfl) (by kernel_rfl) (fun _ _ _ h => h) (Or.inr ⟨by rfl, rfl⟩) (by assumption) ?_
          try simp only [Act.put, List.setIfInBounds_toArray, List.set_cons_zero, List.set_cons_succ]
          refine wpAnyH_take (i := 10) (v := undef) (takeL rfl) (by kernel_rfl) (by kernel_rfl) (by kernel_rfl) (fun _ _ _ h => h) (Or.inr ⟨by rfl, rfl⟩) (by assumption) ?_
          try simp only [Act.put, List.setIfInBounds_toArray, List.set_cons_zero, List.set_cons_succ]
          refine wpAnyH_take (i := 11) (v := undef) (takeL rfl) (by kernel_rfl) (by kernel_rfl) (by kernel_rfl) (fun _ _ _ h => h) (Or.inr ⟨by rfl, rfl⟩) (by assumption) ?_
          try simp only [Act.put, List.setIfInBounds_toArray, List.set_cons_zero, List.set_cons_succ]
          refine wpAnyH_take (i := 12) (v := undef) (takeL rfl) (by kernel_rfl) (by kernel_rfl) (by kernel_rfl) (fun _ _ _ h => h) (Or.inr ⟨by rfl, rfl⟩) (by assumption) ?_
          try simp only [Act.put, List.setIfInBounds_toArray, List.set_cons_zero, List.set_cons_succ]
          refine wpAnyH_take (i := 13) (v := undef) (takeL rfl) (by kernel_rfl) (by kernel_rfl) (by kernel_rfl) (fun _ _ _ h => h) (Or.inr ⟨by rfl, rfl⟩) (by assumption) ?_
          try simp only [Act.put, List.setIfInBounds_toArray, List.set_cons_zero, List.set_cons_succ]
          refine wpAnyH_take (i := 14) (v := undef) (takeL rfl) (by kernel_rfl) (by kernel_rfl) (by kernel_rfl) (fun _ _ _ h => h) (Or.inr ⟨by rfl, rfl⟩) (by assumption) ?_
          try simp only [Act.put, List.setIfInBounds_toArray, List.set_cons_zero, List.set_cons_succ]
          refine wpAnyH_take (i := 15) (v := undef) (takeL rfl) (by kernel_rfl) (by kernel_rfl) (by kernel_rfl) (fun _ _ _ h => h) (Or.inr ⟨by rfl, rfl⟩) (by assumption) ?_
          try simp only [Act.put, List.setIfInBounds_toArray, List.set_cons_zero, List.set_cons_succ]
          refine wpAnyH_take (i := 16) (v := undef) (takeL rfl) (by kernel_rfl) (by kernel_rfl) (by kernel_rfl) (fun _ _ _ h => h) (Or.inr ⟨by rfl, rfl⟩) (by assumption) ?_
          try simp only [Act.put, List.setIfInBounds_toArray, List.set_cons_zero, List.set_cons_succ]
          refine wpAnyH_take (i := 17) (v := ?_) (takeL rfl) (by kernel_rfl) (by kernel_rfl) (by kernel_rfl) (fun _ _ _ h => h) (Or.inl ⟨by rfl, ?_⟩) (by assumption) ?_
          rotate_left
          · (intro w hSw; (try dsimp only at hSw); first | (go_simp; done) | (go_simp; with_reducible rfl))
          try simp only [Act.put, List.setIfInBounds_toArray, List.set_cons_zero, List.set_cons_succ]
          refine wpAnyH_take (i := 18) (v := ?_) (takeL rfl) (by kernel_rfl) (by kernel_rfl) (by kernel_rfl) (fun _ _ _ h => h) (Or.inl ⟨by rfl, ?_⟩) (by assumption) ?_
          rotate_left
          · (intro w hSw; (try dsimp only at hSw); first | (go_simp; done) | (go_simp; with_reducible rfl))
          try simp only [Act.put, List.setIfInBounds_toArray, List.set_cons_zero, List.set_cons_succ]
          refine wpAnyH_done (by kernel_rfl) ?_ _
          refine NoPanic.normal ?_
          go_wp2_with fail
          go_roundw
          case rel => exact ⟨k + 1, by omega, by go_num, bNext (bDrew HB3.out) hB4, HI⟩
          case measure => simp [intOf]; omega
        · obtain ⟨m, hkm⟩ : ∃ m, k = m + 1 := ⟨k - 1, by omega⟩
          have hmk : m < k := by omega
          have hmn : m < nb := by omega
          have hwm : IntKind.i64.wrap ((k : Int) - 1) = (m : Int) := by rw [IntKind.wrap_i64]; omega
          have hk1 : 0 < k := by omega
          have hk2 : decide (0 < k) = true := decide_eq_true hk1
          have hk3 : decide ((0 : Int) < (k : Int)) = true := decide_eq_true (by omega)
          obtain ⟨b', off', p', q', hb', hbl', f0, _, hp'⟩ := (HS1.out.below HB3.out).get m (by rw [hn.out]; exact hmn)
          cases hb'
          obtain ⟨N, hN⟩ := nm (p' == p)
          have hN2 : (p' == p) = N := hN.out.symm
          have HKM : Hid (k = m + 1) := hkm
          have hbl3 : Hid (b < w3.heap.size) := hbl'
          clear hkm hk0
          have KEEP : Hid (∀ wb : World, Below w3.drew.heap.size w3.drew wb → wb.cell? ⟨x, 0, none⟩ = some (.slice (some ⟨b, off, none⟩) nb kb) ∧ wb.cell? ⟨y, 0, none⟩ = some (.int .i64 p) ∧ wb.cell? ⟨y, 1, none⟩ = some (.int .i64 q) ∧ wb.cell? ⟨b, off + m * 2, none⟩ = some (.int .i64 p')) := by
            show ∀ wb : World, _
            intro wb h
            have h1 := Blk.below (w := w3.drew) Kx3.out h Kx3.out.lt
            have h2 := Blk.below (w := w3.drew) Ky.out h Ky.out.lt
            exact ⟨h1.cell 0, h2.cell 0, h2.cell 1, (h.cell (p := ⟨b, off + m * 2, none⟩) hbl3.out).trans f0⟩
          go_wp2_with fail
          rw [← hw3.out, ← hy.out]
          cases N
          · have HI : Hid (Chk dotP (fun y x => y.1 ≠ x.1) bs (k + 1)) := by
              show Chk _ _ _ _
              have h1 := hI.out
              have h2 := hp.out
              rw [HKM.out] at h1 h2 ⊢
              exact Chk.next h1 h2 hC.out.symm hp'.out (by simpa using hN2)
            refine wp_region_noPanic ?_
            refine wp_region_held_drew (S := fun w' => w'.cell? ⟨x, 0, none⟩ = some (.slice (some ⟨b, off, none⟩) nb kb) ∧ w'.cell? ⟨y, 0, none⟩ = some (.int .i64 p) ∧ w'.cell? ⟨y, 1, none⟩ = some (.int .i64 q) ∧ w'.cell? ⟨b, off + m * 2, none⟩ = some (.int .i64 p')) (by kernel_rfl) (⟨c0, e0, e1, f0⟩) (fun hHeld => ?_)
            refine wpAnyH_take (i := 0) (v := ?_) (takeL rfl) (by kernel_rfl) (by kernel_rfl) (by kernel_rfl) (fun _ _ _ h => h) (Or.inl ⟨by rfl, ?_⟩) (by assumption) ?_
            rotate_left
            · (intro w hSw; (try dsimp only at hSw); first | (go_simp; done) | (go_simp; with_reducible rfl))
            try simp only [Act.put, List.setIfInBounds_toArray, List.set_cons_zero, List.set_cons_succ]
            refine wpAnyH_ready (rs := [1]) (by kernel_rfl) (by simp) ?_
            refine AllReadyH.cons (takeL rfl) (fun K hK => ?_) AllReadyH.nil
            go_simp
            refine (check_any p q true hC _).mono ?_; rintro e w4 ⟨rfl, hB4⟩
            go_wp2_with fail
            refine hK.out _ _ (KEEP.out _ hB4) (fun hHeld => ?_)
            clear hK K
            refine wpAnyH_take (i := 2) (v := ?_) (takeL rfl) (by kernel_rfl) (by kernel_rfl) (by kernel_rfl) (fun _ _ _ h => h) (Or.inl ⟨by rfl, ?_⟩) (by assumption) ?_
            rotate_left
            · (intro w hSw; (try dsimp only at hSw); first | (go_simp; done) | (go_simp; with_reducible rfl))
            try simp only [Act.put, List.setIfInBounds_toArray, List.set_cons_zero, List.set_cons_succ]
            refine wpAnyH_take (i := 3) (v := ?_) (takeL rfl) (by kernel_rfl) (by kernel_rfl) (by kernel_rfl) (fun _ _ _ h => h) (Or.inl ⟨by rfl, ?_⟩) (by assumption) ?_
            rotate_left
            · (intro w hSw; (try dsimp only at hSw); first | (go_simp; done) | (go_simp; with_reducible rfl))
            try simp only [Act.put, List.setIfInBounds_toArray, List.set_cons_zero, List.set_cons_succ]
            refine wpAnyH_take (i := 4) (v := ?_) (takeL rfl) (by kernel_rfl) (by kernel_rfl) (by kernel_rfl) (fun _ _ _ h => h) (Or.inl ⟨by rfl, ?_⟩) (by assumption) ?_
            rotate_left
            · (intro w hSw; (try dsimp only at hSw); first | (go_simp; done) | (go_simp; with_reducible rfl))
            try simp only [Act.put, List.setIfInBounds_toArray, List.set_cons_zero, List.set_cons_succ]
            refine wpAnyH_take (i := 5) (v := ?_) (takeL rfl) (by kernel_rfl) (by kernel_rfl) (by kernel_rfl) (fun _ _ _ h => h) (Or.inl ⟨by rfl, ?_⟩) (by assumption) ?_
            rotate_left
            · (intro w hSw; (try dsimp only at hSw); first | (go_simp; done) | (go_simp; with_reducible rfl))
            try simp only [Act.put, List.setIfInBounds_toArray, List.set_cons_zero, List.set_cons_succ]
            refine wpAnyH_take (i := 6) (v := ?_) (takeL rfl) (by kernel_rfl) (by kernel_rfl) (by kernel_rfl) (fun _ _ _ h => h) (Or.inl ⟨by rfl, ?_⟩) (by assumption) ?_
            rotate_left
            · (intro w hSw; (try dsimp only at hSw); first | (go_simp; done) | (go_simp; with_reducible rfl))
            try simp only [Act.put, List.setIfInBounds_toArray, List.set_cons_zero, List.set_cons_succ]
            refine wpAnyH_take (i := 7) (v := ?_) (takeL rfl) (by kernel_rfl) (by kernel_rfl) (by kernel_rfl) (fun _ _ _ h => h) (Or.inl ⟨by rfl, ?_⟩) (by assumption) ?_
            rotate_left
            · (intro w hSw; (try dsimp only at hSw); first | (go_simp; done) | (go_simp; with_reducible rfl))
            try simp only [Act.put, List.setIfInBounds_toArray, List.set_cons_zero, List.set_cons_succ]
            refine wpAnyH_take (i := 8) (v := ?_) (takeL rfl) (by kernel_rfl) (by kernel_rfl) (by kernel_rfl) (fun _ _ _ h => h) (Or.inl ⟨by rfl, ?_⟩) (by assumption) ?_
            rotate_left
            · (intro w hSw; (try dsimp only at hSw); first | (go_simp; done) | (go_simp; with_reducible rfl))
            try simp only [Act.put, List.setIfInBounds_toArray, List.set_cons_zero, List.set_cons_succ]
            refine wpAnyH_take (i := 9) (v := ?_) (takeL rfl) (by kernel_rfl) (by kernel_rfl) (by kernel_rfl) (fun _ _ _ h => h) (Or.inl ⟨by rfl, ?_⟩) (by assumption) ?_
            rotate_left
            · (intro w hSw; (try dsimp only at hSw); first | (go_simp; done) | (go_simp; with_reducible rfl))
            try simp only [Act.put, List.setIfInBounds_toArray, List.set_cons_zero, List.set_cons_succ]
            refine wpAnyH_take (i := 10) (v := ?_) (takeL rfl) (by kernel_rfl) (by kernel_rfl) (by kernel_rfl) (fun _ _ _ h => h) (Or.inl ⟨by rfl, ?_⟩) (by assumption) ?_
            rotate_left
            · (intro w hSw; (try dsimp only at hSw); first | (go_simp; done) | (go_simp; with_reducible rfl))
            try simp only [Act.put, List.setIfInBounds_toArray, List.set_cons_zero, List.set_cons_succ]
            refine wpAnyH_take (i := 11) (v := ?_) (takeL rfl) (by kernel_rfl) (by kernel_rfl) (by kernel_rfl) (fun _ _ _ h => h) (Or.inl ⟨by rfl, ?_⟩) (by assumption) ?_
            rotate_left
            · (intro w hSw; (try dsimp only at hSw); first | (go_simp; done) | (go_simp; with_reducible rfl))
            try simp only [Act.put, List.setIfInBounds_toArray, List.set_cons_zero, List.set_cons_succ]
            refine wpAnyH_take (i := 12) (v := ?_) (takeL rfl) (by kernel_rfl) (by kernel_rfl) (by kernel_rfl) (fun _ _ _ h => h) (Or.inl ⟨by rfl, ?_⟩) (by assumption) ?_
            rotate_left
            · (intro w hSw; (try dsimp only at hSw); first | (go_simp; done) | (go_simp; with_reducible rfl))
            try simp only [Act.put, List.setIfInBounds_toArray, List.set_cons_zero, List.set_cons_succ]
            refine wpAnyH_take (i := 13) (v := ?_) (takeL rfl) (by kernel_rfl) (by kernel_rfl) (by kernel_rfl) (fun _ _ _ h => h) (Or.inl ⟨by rfl, ?_⟩) (by assumption) ?_
            rotate_left
            · (intro w hSw; (try dsimp only at hSw); first | (go_simp; done) | (go_simp; with_reducible rfl))
            try simp only [Act.put, List.setIfInBounds_toArray, List.set_cons_zero, List.set_cons_succ]
            refine wpAnyH_take (i := 14) (v := ?_) (takeL rfl) (by kernel_rfl) (by kernel_rfl) (by kernel_rfl) (fun _ _ _ h => h) (Or.inl ⟨by rfl, ?_⟩) (by assumption) ?_
            rotate_left
            · (intro w hSw; (try dsimp only at hSw); first | (go_simp; done) | (go_simp; with_reducible rfl))
            try simp only [Act.put, List.setIfInBounds_toArray, List.set_cons_zero, List.set_cons_succ]
            refine wpAnyH_take (i := 15) (v := ?_) (takeL rfl) (by kernel_rfl) (by kernel_rfl) (by kernel_rfl) (fun _ _ _ h => h) (Or.inl ⟨by rfl, ?_⟩) (by assumption) ?_
            rotate_left
            · (intro w hSw; (try dsimp only at hSw); first | (go_simp; done) | (go_simp; with_reducible rfl))
            try simp only [Act.put, List.setIfInBounds_toArray, List.set_cons_zero, List.set_cons_succ]
            refine wpAnyH_take (i := 16) (v := ?_) (takeL rfl) (by kernel_rfl) (by kernel_rfl) (by kernel_rfl) (fun _ _ _ h => h) (Or.inl ⟨by rfl, ?_⟩) (by assumption) ?_
            rotate_left
            · (intro w hSw; (try dsimp only at hSw); first | (go_simp; done) | (go_simp; with_reducible rfl))
            try simp only [Act.put, List.setIfInBounds_toArray, List.set_cons_zero, List.set_cons_succ]
            refine wpAnyH_take (i := 17) (v := ?_) (takeL rfl) (by kernel_rfl) (by kernel_rfl) (by kernel_rfl) (fun _ _ _ h => h) (Or.inl ⟨by rfl, ?_⟩) (by assumption) ?_
            rotate_left
            · (intro w hSw; (try dsimp only at hSw); first | (go_simp; done) | (go_simp; with_reducible rfl))
            try simp only [Act.put, List.setIfInBounds_toArray, List.set_cons_zero, List.set_cons_succ]
            refine wpAnyH_take (i := 18) (v := ?_) (takeL rfl) (by kernel_rfl) (by kernel_rfl) (by kernel_rfl) (fun _ _ _ h => h) (Or.inl ⟨by rfl, ?_⟩) (by assumption) ?_
            rotate_left
            · (intro w hSw; (try dsimp only at hSw); first | (go_simp; done) | (go_simp; with_reducible rfl))
            try simp only [Act.put, List.setIfInBounds_toArray, List.set_cons_zero, List.set_cons_succ]
            refine wpAnyH_done (by kernel_rfl) ?_ _
            refine NoPanic.normal ?_
            go_wp2_with fail
            go_roundw
            case rel => exact ⟨k + 1, by omega, by go_num, bNext (bDrew HB3.out) hB4, HI⟩
            case measure => simp [intOf]; omega
          · obtain rfl : r = false := notB hr.out fun h => by
              have h2 := hp.out
              have h3 := hlt
              rw [HKM.out] at h2 h3
              exact Chk.not_r (r := fun y x => y.1 ≠ x.1) (by rw [hn.out]; exact h3) h2 hp'.out (by simpa using hN2) h.base
            obtain rfl := hE.out
            refine wp_region_noPanic ?_
            refine wp_region_held_drew (S := fun w' => w'.cell? ⟨x, 0, none⟩ = some (.slice (some ⟨b, off, none⟩) nb kb) ∧ w'.cell? ⟨y, 0, none⟩ = some (.int .i64 p) ∧ w'.cell? ⟨y, 1, none⟩ = some (.int .i64 q) ∧ w'.cell? ⟨b, off + m * 2, none⟩ = some (.int .i64 p')) (by kernel_rfl) (⟨c0, e0, e1, f0⟩) (fun hHeld => ?_)
            refine wpAnyH_take (i := 0) (v := ?_) (takeL rfl) (by kernel_rfl) (by kernel_rfl) (by kernel_rfl) (fun _ _ _ h => h) (Or.inl ⟨by rfl, ?_⟩) (by assumption) ?_
            rotate_left
            · (intro w hSw; (try dsimp only at hSw); first | (go_simp; done) | (go_simp; with_reducible rfl))
            try simp only [Act.put, List.setIfInBounds_toArray, List.set_cons_zero, List.set_cons_succ]
            refine wpAnyH_ready (rs := [1]) (by kernel_rfl) (by simp) ?_
            refine AllReadyH.cons (takeL rfl) (fun K hK => ?_) AllReadyH.nil
            go_simp
            refine (check_any p q true hC _).mono ?_; rintro e w4 ⟨rfl, hB4⟩
            go_wp2_with fail
            refine hK.out _ _ (KEEP.out _ hB4) (fun hHeld => ?_)
            clear hK K
            refine wpAnyH_take (i := 2) (v := ?_) (takeL rfl) (by kernel_rfl) (by kernel_rfl) (by kernel_rfl) (fun _ _ _ h => h) (Or.inl ⟨by rfl, ?_⟩) (by assumption) ?_
            rotate_left
            · (intro w hSw; (try dsimp only at hSw); first | (go_simp; done) | (go_simp; with_reducible rfl))
            try simp only [Act.put, List.setIfInBounds_toArray, List.set_cons_zero, List.set_cons_succ]
            refine wpAnyH_take (i := 3) (v := ?_) (takeL rfl) (by kernel_rfl) (by kernel_rfl) (by kernel_rfl) (fun _ _ _ h => h) (Or.inl ⟨by rfl, ?_⟩) (by assumption) ?_
            rotate_left
            · (intro w hSw; (try dsimp only at hSw); first | (go_simp; done) | (go_simp; with_reducible rfl))
            try simp only [Act.put, List.setIfInBounds_toArray, List.set_cons_zero, List.set_cons_succ]
            refine wpAnyH_take (i := 4) (v := ?_) (takeL rfl) (by kernel_rfl) (by kernel_rfl) (by kernel_rfl) (fun _ _ _ h => h) (Or.inl ⟨by rfl, ?_⟩) (by assumption) ?_
            rotate_left
            · (intro w hSw; (try dsimp only at hSw); first | (go_simp; done) | (go_simp; with_reducible rfl))
            try simp only [Act.put, List.setIfInBounds_toArray, List.set_cons_zero, List.set_cons_succ]
            refine wpAnyH_take (i := 5) (v := ?_) (takeL rfl) (by kernel_rfl) (by kernel_rfl) (by kernel_rfl) (fun _ _ _ h => h) (Or.inl ⟨by rfl, ?_⟩) (by assumption) ?_
            rotate_left
            · (intro w hSw; (try dsimp only at hSw); first | (go_simp; done) | (go_simp; with_reducible rfl))
            try simp only [Act.put, List.setIfInBounds_toArray, List.set_cons_zero, List.set_cons_succ]
            refine wpAnyH_take (i := 6) (v := ?_) (takeL rfl) (by kernel_rfl) (by kernel_rfl) (by kernel_rfl) (fun _ _ _ h => h) (Or.inl ⟨by rfl, ?_⟩) (by assumption) ?_
            rotate_left
            · (intro w hSw; (try dsimp only at hSw); first | (go_simp; done) | (go_simp; with_reducible rfl))
            try simp only [Act.put, List.setIfInBounds_toArray, List.set_cons_zero, List.set_cons_succ]
            refine wpAnyH_take (i := 7) (v := ?_) (takeL rfl) (by kernel_rfl) (by kernel_rfl) (by kernel_rfl) (fun _ _ _ h => h) (Or.inl ⟨by rfl, ?_⟩) (by assumption) ?_
            rotate_left
            · (intro w hSw; (try dsimp only at hSw); first | (go_simp; done) | (go_simp; with_reducible rfl))
            try simp only [Act.put, List.setIfInBounds_toArray, List.set_cons_zero, List.set_cons_succ]
            refine wpAnyH_take (i := 8) (v := ?_) (takeL rfl) (by kernel_rfl) (by kernel_rfl) (by kernel_rfl) (fun _ _ _ h => h) (Or.inl ⟨by rfl, ?_⟩) (by assumption) ?_
            rotate_left
            · (intro w hSw; (try dsimp only at hSw); first | (go_simp; done) | (go_simp; with_reducible rfl))
            try simp only [Act.put, List.setIfInBounds_toArray, List.set_cons_zero, List.set_cons_succ]
            refine wpAnyH_take (i := 9) (v := ?_) (takeL rfl) (by kernel_rfl) (by kernel_rfl) (by kernel_rfl) (fun _ _ _ h => h) (Or.inl ⟨by rfl, ?_⟩) (by assumption) ?_
            rotate_left
            · (intro w hSw; (try dsimp only at hSw); first | (go_simp; done) | (go_simp; with_reducible rfl))
            try simp only [Act.put, List.setIfInBounds_toArray, List.set_cons_zero, List.set_cons_succ]
            refine wpAnyH_take (i := 10) (v := ?_) (takeL rfl) (by kernel_rfl) (by kernel_rfl) (by kernel_rfl) (fun _ _ _ h => h) (Or.inl ⟨by rfl, ?_⟩) (by assumption) ?_
            rotate_left
            · (intro w hSw; (try dsimp only at hSw); first | (go_simp; done) | (go_simp; with_reducible rfl))
            try simp only [Act.put, List.setIfInBounds_toArray, List.set_cons_zero, List.set_cons_succ]
            refine wpAnyH_take (i := 11) (v := ?_) (takeL rfl) (by kernel_rfl) (by kernel_rfl) (by kernel_rfl) (fun _ _ _ h => h) (Or.inl ⟨by rfl, ?_⟩) (by assumption) ?_
            rotate_left
            · (intro w hSw; (try dsimp only at hSw); first | (go_simp; done) | (go_simp; with_reducible rfl))
            try simp only [Act.put, List.setIfInBounds_toArray, List.set_cons_zero, List.set_cons_succ]
            refine wpAnyH_take (i := 12) (v := ?_) (takeL rfl) (by kernel_rfl) (by kernel_rfl) (by kernel_rfl) (fun _ _ _ h => h) (Or.inl ⟨by rfl, ?_⟩) (by assumption) ?_
            rotate_left
            · (intro w hSw; (try dsimp only at hSw); first | (go_simp; done) | (go_simp; with_reducible rfl))
            try simp only [Act.put, List.setIfInBounds_toArray, List.set_cons_zero, List.set_cons_succ]
            refine wpAnyH_take (i := 13) (v := ?_) (takeL rfl) (by kernel_rfl) (by kernel_rfl) (by kernel_rfl) (fun _ _ _ h => h) (Or.inl ⟨by rfl, ?_⟩) (by assumption) ?_
            rotate_left
            · (intro w hSw; (try dsimp only at hSw); first | (go_simp; done) | (go_simp; with_reducible rfl))
            try simp only [Act.put, List.setIfInBounds_toArray, List.set_cons_zero, List.set_cons_succ]
            refine wpAnyH_take (i := 14) (v := ?_) (takeL rfl) (by kernel_rfl) (by kernel_rfl) (by kernel_rfl) (fun _ _ _ h => h) (Or.inl ⟨by rfl, ?_⟩) (by assumption) ?_
            rotate_left
            · (intro w hSw; (try dsimp only at hSw); first | (go_simp; done) | (go_simp; with_reducible rfl))
            try simp only [Act.put, List.setIfInBounds_toArray, List.set_cons_zero, List.set_cons_succ]
            refine wpAnyH_take (i := 15) (v := ?_) (takeL rfl) (by kernel_rfl) (by kernel_rfl) (by kernel_rfl) (fun _ _ _ h => h) (Or.inl ⟨by rfl, ?_⟩) (by assumption) ?_
            rotate_left
            · (intro w hSw; (try dsimp only at hSw); first | (go_simp; done) | (go_simp; with_reducible rfl))
            try simp only [Act.put, List.setIfInBounds_toArray, List.set_cons_zero, List.set_cons_succ]
            refine wpAnyH_take (i := 16) (v := ?_) (takeL rfl) (by kernel_rfl) (by kernel_rfl) (by kernel_rfl) (fun _ _ _ h => h) (Or.inl ⟨by rfl, ?_⟩) (by assumption) ?_
            rotate_left
            · (intro w hSw; (try dsimp only at hSw); first | (go_simp; done) | (go_simp; with_reducible rfl))
            try simp only [Act.put, List.setIfInBounds_toArray, List.set_cons_zero, List.set_cons_succ]
            refine wpAnyH_take (i := 17) (v := ?_) (takeL rfl) (by kernel_rfl) (by kernel_rfl) (by kernel_rfl) (fun _ _ _ h => h) (Or.inl ⟨by rfl, ?_⟩) (by assumption) ?_
            rotate_left
            · (intro w hSw; (try dsimp only at hSw); first | (go_simp; done) | (go_simp; with_reducible rfl))
            try simp only [Act.put, List.setIfInBounds_toArray, List.set_cons_zero, List.set_cons_succ]
            refine wpAnyH_take (i := 18) (v := ?_) (takeL rfl) (by kernel_rfl) (by kernel_rfl) (by kernel_rfl) (fun _ _ _ h => h) (Or.inl ⟨by rfl, ?_⟩) (by assumption) ?_
            rotate_left
            · (intro w hSw; (try dsimp only at hSw); first | (go_simp; done) | (go_simp; with_reducible rfl))
            try simp only [Act.put, List.setIfInBounds_toArray, List.set_cons_zero, List.set_cons_succ]
            refine wpAnyH_done (by kernel_rfl) ?_ _
            refine NoPanic.normal ?_
            go_wp2_with fail
            go_ret
            exact ⟨rfl, bNext (bDrew HB03.out) hB4⟩
    · obtain rfl : k = nb := by omega
      rename World => wE
      replace Kx := Lib.hid (Kx.out.below hB Kx.out.lt)
      replace HB0 := Lib.hid (bNext HB0.out hB)
      replace HS1 := Lib.hid (HS1.out.below hB)
      replace HS2 := Lib.hid (HS2.out.below hB)
      have HBS : Hid (Chk dotP (fun y x => y.1 ≠ x.1) bs bs.length) := by rw [hn.out]; exact hI.out
      have HBA : Hid (∀ x ∈ bs, dotP x) := HBS.out.all (Nat.le_refl _)
      have c1 : wE.cell? ⟨x, 1, none⟩ = some (.slice ac nc kc) := Kx.out.cell 1
      clear hB hI
      go_wp2_with fail
      clear c1
      go_loopw [48] (fun i wr => ∃ k : Nat, k ≤ nc ∧ i = .int .i64 (k : Int) ∧ Below wE.heap.size wE wr ∧ Hid (Chk (fun x => dotP x ∧ uptoD bs x.1 + 1 < x.2) (fun _ _ => True) cl k)) (fun i _ => nc - (intOf i).toNat)
      case atStart => exact ⟨0, by omega, rfl, Below.refl _ _, Lib.hid Chk.zero⟩
      case round =>
        obtain ⟨j, hj, rfl, hB, hI⟩ := hrel
        by_cases hlt : j < nc
        · obtain ⟨b, off, p, q, rfl, hbl, d0, d1, hp⟩ := (HS2.out.below hB).get j (by rw [hn2.out]; exact hlt)
          obtain ⟨z, hz⟩ := nm wr.heap.size
          obtain ⟨w3, hw3⟩ := nm (wr.alloc (.cells #[.int .i64 p, .int .i64 q] 31))
          have Kz : Hid (Blk w3 z #[.int .i64 p, .int .i64 q] 31) := blkN hw3.out hz.out
          have Kx3 : Hid (Blk w3 x #[.slice ab k kb, .slice (some ⟨b, off, none⟩) nc kc] 25) := by show Blk _ _ _ _; rw [hw3.out]; exact (Kx.out.below hB Kx.out.lt).alloc _
          have HB3 : Hid (Below wE.heap.size wE w3) := by rw [hw3.out]; exact bNew hB _
          have HB03 : Hid (Below w.heap.size w w3) := bNext HB0.out HB3.out
          have HSB : Hid (SlP w3 ab bs) := HS1.out.below HB3.out
          obtain ⟨C, hC⟩ := nm (okD p q)
          obtain ⟨u, hu⟩ := nm (uptoD bs p)
          have c0 : w3.cell? ⟨x, 0, none⟩ = some (.slice ab k kb) := Kx3.out.cell 0
          have c1 : w3.cell? ⟨x, 1, none⟩ = some (.slice (some ⟨b, off, none⟩) nc kc) := Kx3.out.cell 1
          have e0 : w3.cell? ⟨z, 0, none⟩ = some (.int .i64 p) := Kz.out.cell 0
          have e1 : w3.cell? ⟨z, 1, none⟩ = some (.int .i64 q) := Kz.out.cell 1
          have hub := uptoD_le (bs := bs) (z := p) HBA.out
          rw [← hu.out] at hub
          have hw1 : IntKind.i64.wrap (u + 1) = u + 1 := by rw [IntKind.wrap_i64]; omega
          clear hB hub
          have KEEP : Hid (∀ wb : World, Below w3.drew.heap.size w3.drew wb → wb.cell? ⟨x, 0, none⟩ = some (.slice ab k kb) ∧ wb.cell? ⟨x, 1, none⟩ = some (.slice (some ⟨b, off, none⟩) nc kc) ∧ wb.cell? ⟨z, 0, none⟩ = some (.int .i64 p) ∧ wb.cell? ⟨z, 1, none⟩ = some (.int .i64 q)) := by
            show ∀ wb : World, _
            intro wb h
            have h1 := Blk.below (w := w3.drew) Kx3.out h Kx3.out.lt
            have h2 := Blk.below (w := w3.drew) Kz.out h Kz.out.lt
            exact ⟨h1.cell 0, h1.cell 1, h2.cell 0, h2.cell 1⟩
          go_wp2_with fail
          rw [← hw3.out, ← hz.out]
          cases C
          · obtain rfl : r = false := notB hr.out fun h => by
              have := (h.cloud _ (List.mem_of_getElem? hp.out)).1
              rw [dotP, ← hC.out] at this
              cases this
            obtain rfl := hE.out
            refine wp_region_held_drew (S := fun w' => w'.cell? ⟨x, 0, none⟩ = some (.slice ab k kb) ∧ w'.cell? ⟨x, 1, none⟩ = some (.slice (some ⟨b, off, none⟩) nc kc) ∧ w'.cell? ⟨z, 0, none⟩ = some (.int .i64 p) ∧ w'.cell? ⟨z, 1, none⟩ = some (.int .i64 q)) (by kernel_rfl) (⟨c0, c1, e0, e1⟩) (fun hHeld => ?_)
            refine wpAnyH_take (i := 0) (v := ?_) (takeL rfl) (by kernel_rfl) (by kernel_rfl) (by kernel_rfl) (fun _ _ _ h => h) (Or.inl ⟨by rfl, ?_⟩) (by assumption) ?_
            rotate_left
            · (intro w hSw; (try dsimp only at hSw); first | (go_simp; done) | (go_simp; with_reducible rfl))
            try simp only [Act.put, List.setIfInBounds_toArray, List.set_cons_zero, List.set_cons_succ]
            refine wpAnyH_ready (rs := [1]) (by kernel_rfl) (by simp) ?_
            refine AllReadyH.cons (takeL rfl) (fun K hK => ?_) AllReadyH.nil
            go_simp
            refine (check_any p q false hC _).mono ?_; rintro e w4 ⟨rfl, hB4⟩
            go_wp2_with fail
            refine hK.out _ _ (KEEP.out _ hB4) (fun hHeld => ?_)
            clear hK K
            refine wpAnyH_take (i := 2) (v := ?_) (takeL rfl) (by kernel_rfl) (by kernel_rfl) (by kernel_rfl) (fun _ _ _ h => h) (Or.inl ⟨by rfl, ?_⟩) (by assumption) ?_
            rotate_left
            · (intro w hSw; (try dsimp only at hSw); first | (go_simp; done) | (go_simp; with_reducible rfl))
            try simp only [Act.put, List.setIfInBounds_toArray, List.set_cons_zero, List.set_cons_succ]
            refine wpAnyH_take (i := 3) (v := ?_) (takeL rfl) (by kernel_rfl) (by kernel_rfl) (by kernel_rfl) (fun _ _ _ h => h) (Or.inl ⟨by rfl, ?_⟩) (by assumption) ?_
            rotate_left
            · (intro w hSw; (try dsimp only at hSw); first | (go_simp; done) | (go_simp; with_reducible rfl))
            try simp only [Act.put, List.setIfInBounds_toArray, List.set_cons_zero, List.set_cons_succ]
            refine wpAnyH_take (i := 4) (v := undef) (takeL rfl) (by kernel_rfl) (by kernel_rfl) (by kernel_rfl) (fun _ _ _ h => h) (Or.inr ⟨by rfl, rfl⟩) (by assumption) ?_
            try simp only [Act.put, List.setIfInBounds_toArray, List.set_cons_zero, List.set_cons_succ]
            refine wpAnyH_take (i := 5) (v := undef) (takeL rfl) (by kernel_rfl) (by kernel_rfl) (by kernel_rfl) (fun _ _ _ h => h) (Or.inr ⟨by rfl, rfl⟩) (by assumption) ?_
            try simp only [Act.put, List.setIfInBounds_toArray, List.set_cons_zero, List.set_cons_succ]
            refine wpAnyH_take (i := 6) (v := undef) (takeL rfl) (by kernel_rfl) (by kernel_rfl) (by kernel_rfl) (fun _ _ _ h => h) (Or.inr ⟨by rfl, rfl⟩) (by assumption) ?_
            try simp only [Act.put, List.setIfInBounds_toArray, List.set_cons_zero, List.set_cons_succ]
            refine wpAnyH_take (i := 7) (v := undef) (takeL rfl) (by kernel_rfl) (by kernel_rfl) (by kernel_rfl) (fun _ _ _ h => h) (Or.inr ⟨by rfl, rfl⟩) (by assumption) ?_
            try simp only [Act.put, List.setIfInBounds_toArray, List.set_cons_zero, List.set_cons_succ]
            refine wpAnyH_take (i := 8) (v := undef) (takeL rfl) (by kernel_rfl) (by kernel_rfl) (by kernel_rfl) (fun _ _ _ h => h) (Or.inr ⟨by rfl, rfl⟩) (by assumption) ?_
            try simp only [Act.put, List.setIfInBounds_toArray, List.set_cons_zero, List.set_cons_succ]
            refine wpAnyH_take (i := 9) (v := undef) (takeL rfl) (by kernel_rfl) (by kernel_rfl) (by kernel_rfl) (fun _ _ _ h => h) (Or.inr ⟨by rfl, rfl⟩) (by assumption) ?_
            try simp only [Act.put, List.setIfInBounds_toArray, List.set_cons_zero, List.set_cons_succ]
            refine wpAnyH_take (i := 10) (v := undef) (takeL rfl) (by kernel_rfl) (by kernel_rfl) (by kernel_rfl) (fun _ _ _ h => h) (Or.inr ⟨by rfl, rfl⟩) (by assumption) ?_
            try simp only [Act.put, List.setIfInBounds_toArray, List.set_cons_zero, List.set_cons_succ]
            refine wpAnyH_take (i := 11) (v := undef) (takeL rfl) (by kernel_rfl) (by kernel_rfl) (by kernel_rfl) (fun _ _ _ h => h) (Or.inr ⟨by rfl, rfl⟩) (by assumption) ?_
            try simp only [Act.put, List.setIfInBounds_toArray, List.set_cons_zero, List.set_cons_succ]
            refine wpAnyH_take (i := 12) (v := ?_) (takeL rfl) (by kernel_rfl) (by kernel_rfl) (by kernel_rfl) (fun _ _ _ h => h) (Or.inl ⟨by rfl, ?_⟩) (by assumption) ?_
            rotate_left
            · (intro w hSw; (try dsimp only at hSw); first | (go_simp; done) | (go_simp; with_reducible rfl))
            try simp only [Act.put, List.setIfInBounds_toArray, List.set_cons_zero, List.set_cons_succ]
            refine wpAnyH_done (by kernel_rfl) ?_ _
            go_wp2_with fail
            go_ret
            exact ⟨rfl, bNext (bDrew HB03.out) hB4⟩
          · by_cases hq : q ≤ u + 1
            · have hqd : decide (q ≤ u + 1) = true := decide_eq_true hq
              obtain rfl : r = false := notB hr.out fun h => by
                have := (h.cloud _ (List.mem_of_getElem? hp.out)).2
                rw [← hu.out] at this
                simp only at this
                omega
              obtain rfl := hE.out
              refine wp_region_held_drew (S := fun w' => w'.cell? ⟨x, 0, none⟩ = some (.slice ab k kb) ∧ w'.cell? ⟨x, 1, none⟩ = some (.slice (some ⟨b, off, none⟩) nc kc) ∧ w'.cell? ⟨z, 0, none⟩ = some (.int .i64 p) ∧ w'.cell? ⟨z, 1, none⟩ = some (.int .i64 q)) (by kernel_rfl) (⟨c0, c1, e0, e1⟩) (fun hHeld => ?_)
              refine wpAnyH_take (i := 0) (v := ?_) (takeL rfl) (by kernel_rfl) (by kernel_rfl) (by kernel_rfl) (fun _ _ _ h => h) (Or.inl ⟨by rfl, ?_⟩) (by assumption) ?_
              rotate_left
              · (intro w hSw; (try dsimp only at hSw); first | (go_simp; done) | (go_simp; with_reducible rfl))
              try simp only [Act.put, List.setIfInBounds_toArray, List.set_cons_zero, List.set_cons_succ]
              refine wpAnyH_ready (rs := [1]) (by kernel_rfl) (by simp) ?_
              refine AllReadyH.cons (takeL rfl) (fun K hK => ?_) AllReadyH.nil
              go_simp
              refine (check_any p q true hC _).mono ?_; rintro e w4 ⟨rfl, hB4⟩
              go_wp2_with fail
              refine hK.out _ _ (KEEP.out _ hB4) (fun hHeld => ?_)
              clear hK K
              refine wpAnyH_take (i := 2) (v := ?_) (takeL rfl) (by kernel_rfl) (by kernel_rfl) (by kernel_rfl) (fun _ _ _ h => h) (Or.inl ⟨by rfl, ?_⟩) (by assumption) ?_
              rotate_left
              · (intro w hSw; (try dsimp only at hSw); first | (go_simp; done) | (go_simp; with_reducible rfl))
              try simp only [Act.put, List.setIfInBounds_toArray, List.set_cons_zero, List.set_cons_succ]
              refine wpAnyH_take (i := 3) (v := ?_) (takeL rfl) (by kernel_rfl) (by kernel_rfl) (by kernel_rfl) (fun _ _ _ h => h) (Or.inl ⟨by rfl, ?_⟩) (by assumption) ?_
              rotate_left
              · (intro w hSw; (try dsimp only at hSw); first | (go_simp; done) | (go_simp; with_reducible rfl))
              try simp only [Act.put, List.setIfInBounds_toArray, List.set_cons_zero, List.set_cons_succ]
              refine wpAnyH_take (i := 4) (v := ?_) (takeL rfl) (by kernel_rfl) (by kernel_rfl) (by kernel_rfl) (fun _ _ _ h => h) (Or.inl ⟨by rfl, ?_⟩) (by assumption) ?_
              rotate_left
              · (intro w hSw; (try dsimp only at hSw); first | (go_simp; done) | (go_simp; with_reducible rfl))
              try simp only [Act.put, List.setIfInBounds_toArray, List.set_cons_zero, List.set_cons_succ]
              refine wpAnyH_take (i := 5) (v := ?_) (takeL rfl) (by kernel_rfl) (by kernel_rfl) (by kernel_rfl) (fun _ _ _ h => h) (Or.inl ⟨by rfl, ?_⟩) (by assumption) ?_
              rotate_left
              · (intro w hSw; (try dsimp only at hSw); first | (go_simp; done) | (go_simp; with_reducible rfl))
              try simp only [Act.put, List.setIfInBounds_toArray, List.set_cons_zero, List.set_cons_succ]
              refine wpAnyH_take (i := 6) (v := ?_) (takeL rfl) (by kernel_rfl) (by kernel_rfl) (by kernel_rfl) (fun _ _ _ h => h) (Or.inl ⟨by rfl, ?_⟩) (by assumption) ?_
              rotate_left
              · (intro w hSw; (try dsimp only at hSw); first | (go_simp; done) | (go_simp; with_reducible rfl))
              try simp only [Act.put, List.setIfInBounds_toArray, List.set_cons_zero, List.set_cons_succ]
              refine wpAnyH_take (i := 7) (v := ?_) (takeL rfl) (by kernel_rfl) (by kernel_rfl) (by kernel_rfl) (fun _ _ _ h => h) (Or.inl ⟨by rfl, ?_⟩) (by assumption) ?_
              rotate_left
              · (intro w hSw; (try dsimp only at hSw); first | (go_simp; done) | (go_simp; with_reducible rfl))
              try simp only [Act.put, List.setIfInBounds_toArray, List.set_cons_zero, List.set_cons_succ]
              refine wpAnyH_take (i := 8) (v := ?_) (takeL rfl) (by kernel_rfl) (by kernel_rfl) (by kernel_rfl) (fun _ _ _ h => h) (Or.inl ⟨by rfl, ?_⟩) (by assumption) ?_
              rotate_left
              · (intro w hSw; (try dsimp only at hSw); first | (go_simp; done) | (go_simp; with_reducible rfl))
              try simp only [Act.put, List.setIfInBounds_toArray, List.set_cons_zero, List.set_cons_succ]
              refine wpAnyH_ready (rs := [9]) (by kernel_rfl) (by simp) ?_
              refine AllReadyH.cons (takeL rfl) (fun K hK => ?_) AllReadyH.nil
              go_simp
              refine (upto_any ab (some ⟨b, off, none⟩) k kb nc kc bs hn hm p u hu HA1 _ (HSB.out.below (bNext (bDrew (Below.refl _ _)) hB4))).mono ?_; rintro e w5 ⟨rfl, hB5⟩
              go_wp2_with fail
              refine hK.out _ _ (KEEP.out _ (bNext hB4 hB5)) (fun hHeld => ?_)
              clear hK K
              refine wpAnyH_take (i := 10) (v := ?_) (takeL rfl) (by kernel_rfl) (by kernel_rfl) (by kernel_rfl) (fun _ _ _ h => h) (Or.inl ⟨by rfl, ?_⟩) (by assumption) ?_
              rotate_left
              · (intro w hSw; (try dsimp only at hSw); first | (go_simp; done) | (go_simp; with_reducible rfl))
              try simp only [Act.put, List.setIfInBounds_toArray, List.set_cons_zero, List.set_cons_succ]
              refine wpAnyH_take (i := 11) (v := ?_) (takeL rfl) (by kernel_rfl) (by kernel_rfl) (by kernel_rfl) (fun _ _ _ h => h) (Or.inl ⟨by rfl, ?_⟩) (by assumption) ?_
              rotate_left
              · (intro w hSw; (try dsimp only at hSw); first | (go_simp; done) | (go_simp; with_reducible rfl))
              try simp only [Act.put, List.setIfInBounds_toArray, List.set_cons_zero, List.set_cons_succ]
              refine wpAnyH_take (i := 12) (v := ?_) (takeL rfl) (by kernel_rfl) (by kernel_rfl) (by kernel_rfl) (fun _ _ _ h => h) (Or.inl ⟨by rfl, ?_⟩) (by assumption) ?_
              rotate_left
              · (intro w hSw; (try dsimp only at hSw); first | (go_simp; done) | (go_simp; with_reducible rfl))
              try simp only [Act.put, List.setIfInBounds_toArray, List.set_cons_zero, List.set_cons_succ]
              refine wpAnyH_done (by kernel_rfl) ?_ _
              go_wp2_with fail
              go_ret
              exact ⟨rfl, bNext (bDrew HB03.out) (bNext hB4 hB5)⟩
            · have hqd : decide (q ≤ u + 1) = false := decide_eq_false hq
              have HI : Hid (Chk (fun x => dotP x ∧ uptoD bs x.1 + 1 < x.2) (fun _ _ => True) cl (j + 1)) := by
                intro i y hi hy
                rcases Nat.lt_or_ge i j with h1 | h1
                · exact hI.out i y h1 hy
                · obtain rfl : i = j := by omega
                  rw [hp.out] at hy
                  obtain rfl := Option.some.inj hy
                  exact ⟨⟨hC.out.symm, by rw [← hu.out]; omega⟩, fun _ _ _ _ => trivial⟩
              refine wp_region_held_drew (S := fun w' => w'.cell? ⟨x, 0, none⟩ = some (.slice ab k kb) ∧ w'.cell? ⟨x, 1, none⟩ = some (.slice (some ⟨b, off, none⟩) nc kc) ∧ w'.cell? ⟨z, 0, none⟩ = some (.int .i64 p) ∧ w'.cell? ⟨z, 1, none⟩ = some (.int .i64 q)) (by kernel_rfl) (⟨c0, c1, e0, e1⟩) (fun hHeld => ?_)
              refine wpAnyH_take (i := 0) (v := ?_) (takeL rfl) (by kernel_rfl) (by kernel_rfl) (by kernel_rfl) (fun _ _ _ h => h) (Or.inl ⟨by rfl, ?_⟩) (by assumption) ?_
              rotate_left
              · (intro w hSw; (try dsimp only at hSw); first | (go_simp; done) | (go_simp; with_reducible rfl))
              try simp only [Act.put, List.setIfInBounds_toArray, List.set_cons_zero, List.set_cons_succ]
              refine wpAnyH_ready (rs := [1]) (by kernel_rfl) (by simp) ?_
              refine AllReadyH.cons (takeL rfl) (fun K hK => ?_) AllReadyH.nil
              go_simp
              refine (check_any p q true hC _).mono ?_; rintro e w4 ⟨rfl, hB4⟩
              go_wp2_with fail
              refine hK.out _ _ (KEEP.out _ hB4) (fun hHeld => ?_)
              clear hK K
              refine wpAnyH_take (i := 2) (v := ?_) (takeL rfl) (by kernel_rfl) (by kernel_rfl) (by kernel_rfl) (fun _ _ _ h => h) (Or.inl ⟨by rfl, ?_⟩) (by assumption) ?_
              rotate_left
              · (intro w hSw; (try dsimp only at hSw); first | (go_simp; done) | (go_simp; with_reducible rfl))
              try simp only [Act.put, List.setIfInBounds_toArray, List.set_cons_zero, List.set_cons_succ]
              refine wpAnyH_take (i := 3) (v := ?_) (takeL rfl) (by kernel_rfl) (by kernel_rfl) (by kernel_rfl) (fun _ _ _ h => h) (Or.inl ⟨by rfl, ?_⟩) (by assumption) ?_
              rotate_left
              · (intro w hSw; (try dsimp only at hSw); first | (go_simp; done) | (go_simp; with_reducible rfl))
              try simp only [Act.put, List.setIfInBounds_toArray, List.set_cons_zero, List.set_cons_succ]
              refine wpAnyH_take (i := 4) (v := ?_) (takeL rfl) (by kernel_rfl) (by kernel_rfl) (by kernel_rfl) (fun _ _ _ h => h) (Or.inl ⟨by rfl, ?_⟩) (by assumption) ?_
              rotate_left
              · (intro w hSw; (try dsimp only at hSw); first | (go_simp; done) | (go_simp; with_reducible rfl))
              try simp only [Act.put, List.setIfInBounds_toArray, List.set_cons_zero, List.set_cons_succ]
              refine wpAnyH_take (i := 5) (v := ?_) (takeL rfl) (by kernel_rfl) (by kernel_rfl) (by kernel_rfl) (fun _ _ _ h => h) (Or.inl ⟨by rfl, ?_⟩) (by assumption) ?_
              rotate_left
              · (intro w hSw; (try dsimp only at hSw); first | (go_simp; done) | (go_simp; with_reducible rfl))
              try simp only [Act.put, List.setIfInBounds_toArray, List.set_cons_zero, List.set_cons_succ]
              refine wpAnyH_take (i := 6) (v := ?_) (takeL rfl) (by kernel_rfl) (by kernel_rfl) (by kernel_rfl) (fun _ _ _ h => h) (Or.inl ⟨by rfl, ?_⟩) (by assumption) ?_
              rotate_left
              · (intro w hSw; (try dsimp only at hSw); first | (go_simp; done) | (go_simp; with_reducible rfl))
              try simp only [Act.put, List.setIfInBounds_toArray, List.set_cons_zero, List.set_cons_succ]
              refine wpAnyH_take (i := 7) (v := ?_) (takeL rfl) (by kernel_rfl) (by kernel_rfl) (by kernel_rfl) (fun _ _ _ h => h) (Or.inl ⟨by rfl, ?_⟩) (by assumption) ?_
              rotate_left
              · (intro w hSw; (try dsimp only at hSw); first | (go_simp; done) | (go_simp; with_reducible rfl))
              try simp only [Act.put, List.setIfInBounds_toArray, List.set_cons_zero, List.set_cons_succ]
              refine wpAnyH_take (i := 8) (v := ?_) (takeL rfl) (by kernel_rfl) (by kernel_rfl) (by kernel_rfl) (fun _ _ _ h => h) (Or.inl ⟨by rfl, ?_⟩) (by assumption) ?_
              rotate_left
              · (intro w hSw; (try dsimp only at hSw); first | (go_simp; done) | (go_simp; with_reducible rfl))
              try simp only [Act.put, List.setIfInBounds_toArray, List.set_cons_zero, List.set_cons_succ]
              refine wpAnyH_ready (rs := [9]) (by kernel_rfl) (by simp) ?_
              refine AllReadyH.cons (takeL rfl) (fun K hK => ?_) AllReadyH.nil
              go_simp
              refine (upto_any ab (some ⟨b, off, none⟩) k kb nc kc bs hn hm p u hu HA1 _ (HSB.out.below (bNext (bDrew (Below.refl _ _)) hB4))).mono ?_; rintro e w5 ⟨rfl, hB5⟩
              go_wp2_with fail
              refine hK.out _ _ (KEEP.out _ (bNext hB4 hB5)) (fun hHeld => ?_)
              clear hK K
              refine wpAnyH_take (i := 10) (v := ?_) (takeL rfl) (by kernel_rfl) (by kernel_rfl) (by kernel_rfl) (fun _ _ _ h => h) (Or.inl ⟨by rfl, ?_⟩) (by assumption) ?_
              rotate_left
              · (intro w hSw; (try dsimp only at hSw); first | (go_simp; done) | (go_simp; with_reducible rfl))
              try simp only [Act.put, List.setIfInBounds_toArray, List.set_cons_zero, List.set_cons_succ]
              refine wpAnyH_take (i := 11) (v := ?_) (takeL rfl) (by kernel_rfl) (by kernel_rfl) (by kernel_rfl) (fun _ _ _ h => h) (Or.inl ⟨by rfl, ?_⟩) (by assumption) ?_
              rotate_left
              · (intro w hSw; (try dsimp only at hSw); first | (go_simp; done) | (go_simp; with_reducible rfl))
              try simp only [Act.put, List.setIfInBounds_toArray, List.set_cons_zero, List.set_cons_succ]
              refine wpAnyH_take (i := 12) (v := ?_) (takeL rfl) (by kernel_rfl) (by kernel_rfl) (by kernel_rfl) (fun _ _ _ h => h) (Or.inl ⟨by rfl, ?_⟩) (by assumption) ?_
              rotate_left
              · (intro w hSw; (try dsimp only at hSw); first | (go_simp; done) | (go_simp; with_reducible rfl))
              try simp only [Act.put, List.setIfInBounds_toArray, List.set_cons_zero, List.set_cons_succ]
              refine wpAnyH_done (by kernel_rfl) ?_ _
              go_wp2_with fail
              go_roundw
              case rel => exact ⟨j + 1, by omega, by go_num, bNext (bDrew HB3.out) (bNext hB4 hB5), HI⟩
              case measure => simp [intOf]; omega
        · obtain rfl : j = nc := by omega
          obtain rfl : r = true := hr.out.2 ⟨HA1.out, HA2.out, HBS.out, fun y hy => hI.out.all (by rw [hn2.out]; exact Nat.le_refl _) y hy⟩
          obtain rfl := hE.out
          go_wp2_with fail
          go_ret
          exact ⟨rfl, bNext HB0.out hB⟩
end Go.Proofs.Ytfpjdmplepepjaa

