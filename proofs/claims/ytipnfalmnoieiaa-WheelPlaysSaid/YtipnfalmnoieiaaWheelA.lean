/- The wheel's memory; put. -/
import Derived.Test.YtipnfalmnoieiaaAlarmSort
import Derived.Test.YtipnfalmnoieiaaHeap
import Derived.StillTailTactics
import Derived.Outline
import Derived.Deep.CutBlock
import Derived.Deep.DeepCutAuto
namespace Go.Proofs.Ytipnfalmnoieiaa
open Go.RowKit Go.Shelf Go.Lib Go.Sort Go.Maps

/-- What was there is as it was, but for the blocks of S. -/
structure KeptS (S : Nat → Prop) (w w' : World) : Prop where
  os : w'.os = w.os
  tape : w'.tape = w.tape
  output : w'.output = w.output
  size : w.heap.size ≤ w'.heap.size
  block : ∀ k, k < w.heap.size → ¬ S k → w'.heap[k]? = w.heap[k]?
theorem KeptS.refl (S : Nat → Prop) (w : World) : KeptS S w w := ⟨rfl, rfl, rfl, Nat.le_refl _, fun _ _ _ => rfl⟩
theorem KeptS.trans {S : Nat → Prop} {w v u : World} (h : KeptS S w v) (k : KeptS S v u) : KeptS S w u :=
  ⟨k.os.trans h.os, k.tape.trans h.tape, k.output.trans h.output, Nat.le_trans h.size k.size, fun i hi hb => (k.block i (Nat.lt_of_lt_of_le hi h.size) hb).trans (h.block i hi hb)⟩
theorem KeptS.mono {S T : Nat → Prop} {w v : World} (h : KeptS S w v) (hst : ∀ k, k < w.heap.size → S k → T k) : KeptS T w v :=
  ⟨h.os, h.tape, h.output, h.size, fun k hk hT => h.block k hk fun hs => hT (hst k hk hs)⟩
theorem KeptS.drewN {S : Nat → Prop} {w v : World} (h : KeptS S w v) (n : Nat) : KeptS S w (v.drewN n) := ⟨h.os, h.tape, h.output, h.size, h.block⟩
theorem KeptS.drew {S : Nat → Prop} {w v : World} (h : KeptS S w v) : KeptS S w v.drew := ⟨h.os, h.tape, h.output, h.size, h.block⟩
theorem KeptS.alloc {S : Nat → Prop} {w v : World} (h : KeptS S w v) (o : Obj) : KeptS S w (v.alloc o) :=
  h.trans ⟨rfl, rfl, rfl, by simp, fun k hk _ => Below.heap_alloc _ _ _ hk⟩
theorem KeptS.set {S : Nat → Prop} {w v : World} (h : KeptS S w v) (a : Addr) (ha : S a.block) (u : Value) : KeptS S w (v.setCell a u) :=
  h.trans ⟨rfl, rfl, rfl, by simp [World.setCell], fun k _ hb => Below.heap_setCell _ _ _ _ (fun e => hb (e ▸ ha))⟩
theorem KeptS.setNew {S : Nat → Prop} {w v : World} (h : KeptS S w v) {a : Addr} (ha : w.heap.size ≤ a.block) (u : Value) : KeptS S w (v.setCell a u) :=
  ⟨h.os, h.tape, h.output, by simpa [World.setCell] using h.size, fun k hk hb => (Below.heap_setCell _ _ _ _ (by omega)).trans (h.block k hk hb)⟩
theorem KeptS.ofBelow {S : Nat → Prop} {w v : World} (h : Below w.heap.size w v) : KeptS S w v := ⟨h.os, h.tape, h.output, h.size, fun k hk _ => h.block k hk⟩
theorem KeptS.grown {S : Nat → Prop} {w v u : World} (h : KeptS S w v) {row : Option Nat} (hg : v.grownBy u row) (hr : ∀ b, row = some b → b < w.heap.size → S b) : KeptS S w u :=
  ⟨hg.os.trans h.os, hg.tape.trans h.tape, hg.output.trans h.output, Nat.le_trans h.size hg.size, fun k hk hb => (hg.block k (Nat.lt_of_lt_of_le hk h.size) (fun e => hb (hr k e.symm hk))).trans (h.block k hk hb)⟩
theorem KeptS.blk {S : Nat → Prop} {w v : World} {b : Nat} {c : Array Value} {t : TypeId} (h : KeptS S w v) (hk : Blk w b c t) (hne : ¬ S b) : Blk v b c t := (h.block b hk.lt hne).trans hk
theorem KeptS.below {S : Nat → Prop} {w v : World} (h : KeptS S w v) {B : Nat} (hB : ∀ k, S k → B ≤ k) (hs : B ≤ w.heap.size) : Below B w v :=
  ⟨h.os, h.tape, h.output, h.size, fun k hk => h.block k (by omega) fun e => by have := hB k e; omega⟩

/-- Block g begins with the pairs of B. -/
def RowG (w : World) (g cap : Nat) (B : PA) : Prop := ∃ cur, Blk w g cur 28 ∧ cur.size = cap * 2 ∧ B.size ≤ cap ∧ cap ≤ maxLen ∧ ∀ j, j < B.size → cur[j * 2]? = some (.int .i64 B[j]!.1) ∧ cur[j * 2 + 1]? = some (.int .i64 B[j]!.2)
theorem flat_take : ∀ (ps : List (Int × Int)) (cs : List Value), (∀ j p, ps[j]? = some p → cs[j * 2]? = some (.int .i64 p.1) ∧ cs[j * 2 + 1]? = some (.int .i64 p.2)) → cs.take (ps.length * 2) = flatD ps
  | [], cs, _ => by simp [flatD]
  | p :: ps, cs, h => by
    obtain ⟨h0, h1⟩ := h 0 p rfl
    match cs, h0, h1 with
    | [], h0, _ => simp at h0
    | [_], _, h1 => simp at h1
    | c0 :: c1 :: cs, h0, h1 =>
      have ih := flat_take ps cs fun j q hj => by
        have := h (j + 1) q (by simpa using hj)
        rw [show (j + 1) * 2 = j * 2 + 1 + 1 from by omega] at this
        simpa using this
      simp only [Nat.zero_mul, List.getElem?_cons_zero, Nat.zero_add, List.getElem?_cons_succ, Option.some.injEq] at h0 h1
      subst h0 h1
      rw [List.length_cons, show (ps.length + 1) * 2 = ps.length * 2 + 1 + 1 from by omega, List.take_succ_cons, List.take_succ_cons, ih]
      rfl
theorem getA {B : PA} {j : Nat} {p : Int × Int} (h : B.toList[j]? = some p) : j < B.size ∧ B[j]! = p := by
  obtain ⟨h1, h2⟩ := List.getElem?_eq_some_iff.1 h
  have h3 : j < B.size := by simpa using h1
  exact ⟨h3, by rw [getElem!_pos B j h3, ← h2]; simp⟩
theorem RowG.lt {w : World} {g cap : Nat} {B : PA} (h : RowG w g cap B) : g < w.heap.size := by obtain ⟨_, h, _⟩ := h; exact h.lt
theorem RowG.cap {w : World} {g cap : Nat} {B : PA} (h : RowG w g cap B) : B.size ≤ cap ∧ cap ≤ maxLen := by obtain ⟨_, _, _, h, h2, _⟩ := h; exact ⟨h, h2⟩
theorem RowG.kept {w w' : World} {g cap : Nat} {B : PA} (h : RowG w g cap B) (hk : w'.heap[g]? = w.heap[g]?) : RowG w' g cap B := by
  obtain ⟨cur, hb, r⟩ := h
  exact ⟨cur, hk.trans hb, r⟩
theorem RowG.own {w : World} {g cap : Nat} {B : PA} {base : Nat} (h : RowG w g cap B) (hb : base ≤ g) : OwnP w base 28 (.slice (some ⟨g, 0, none⟩) B.size cap) B.toList := by
  obtain ⟨cur, h1, h2, h3, h4, h5⟩ := h
  refine ⟨flatD_length _, .inr ⟨g, cap, cur, by simp, hb, h1, by simpa using h3, h4, h2, ?_⟩⟩
  refine flat_take _ _ fun j p hj => ?_
  obtain ⟨hj1, rfl⟩ := getA hj
  simpa using h5 j hj1
theorem RowG.ofOwn {w : World} {g cap n : Nat} {ps : List (Int × Int)} {base : Nat} (h : OwnP w base 28 (.slice (some ⟨g, 0, none⟩) n cap) ps) : RowG w g cap ps.toArray ∧ ps.length = n ∧ base ≤ g := by
  rcases h.2 with ⟨h1, _⟩ | ⟨g', cap', cur, h1, h2, h3, h4, h5, h6, h7⟩
  · cases h1
  · injection h1 with e1 e2 e3
    injection e1 with e1
    injection e1 with e1 _ _
    subst e1 e3
    refine ⟨⟨cur, h3, h6, by simpa using h4, h5, fun j hj => ?_⟩, e2.symm, h2⟩
    have hj' : j < ps.length := by simpa using hj
    obtain ⟨e0, e1⟩ := flatD_get ps j (ps.toArray)[j]! (by rw [getElem!_pos _ j hj]; simp [hj'])
    rw [← h7, List.getElem?_take, if_pos (by omega)] at e0 e1
    exact ⟨by simpa using e0, by simpa using e1⟩
theorem RowG.cells {w : World} {g cap : Nat} {B : PA} (h : RowG w g cap B) (j : Nat) (hj : j < B.size) :
    w.cell? ⟨g, j * 2, none⟩ = some (.int .i64 B[j]!.1) ∧ w.cell? ⟨g, j * 2 + 1, none⟩ = some (.int .i64 B[j]!.2) ∧ w.frozen? ⟨g, j * 2, none⟩ = false ∧ w.frozen? ⟨g, j * 2 + 1, none⟩ = false := by
  obtain ⟨cur, h1, h2, h3, h4, h5⟩ := h
  obtain ⟨e0, e1⟩ := h5 j hj
  exact ⟨by rw [h1.cell]; exact e0, by rw [h1.cell]; exact e1, h1.free _, h1.free _⟩
theorem RowG.pop {w : World} {g cap : Nat} {B : PA} (h : RowG w g cap B) : RowG w g cap B.pop := by
  obtain ⟨cur, h1, h2, h3, h4, h5⟩ := h
  refine ⟨cur, h1, h2, by simp; omega, h4, fun j hj => ?_⟩
  have hj' : j < B.size - 1 := by simpa using hj
  have e : B.pop[j]! = B[j]! := by rw [getElem!_pos _ j hj, getElem!_pos B j (by omega), Array.getElem_pop]
  rw [e]; exact h5 j (by omega)
theorem RowG.set {w : World} {g cap : Nat} {B : PA} (h : RowG w g cap B) (i : Nat) (hi : i < B.size) (x : Int × Int) :
    RowG ((w.setCell ⟨g, i * 2, none⟩ (.int .i64 x.1)).setCell ⟨g, i * 2 + 1, none⟩ (.int .i64 x.2)) g cap (B.setIfInBounds i x) := by
  obtain ⟨cur, h1, h2, h3, h4, h5⟩ := h
  refine ⟨_, (h1.set (i * 2) _).set (i * 2 + 1) _, by simpa using h2, by simpa using h3, h4, fun j hj => ?_⟩
  have hj' : j < B.size := by simpa using hj
  rw [get_set]
  by_cases e : i = j
  · subst e
    rw [if_pos ⟨rfl, hi⟩, Array.getElem?_setIfInBounds, if_neg (by omega), Array.getElem?_setIfInBounds, if_pos rfl, if_pos (by omega), Array.getElem?_setIfInBounds, if_pos rfl, if_pos (by rw [Array.size_setIfInBounds]; omega)]
    exact ⟨rfl, rfl⟩
  · rw [if_neg fun h => e h.1]
    simp only [Array.getElem?_setIfInBounds, Array.size_setIfInBounds]
    rw [if_neg (by omega), if_neg (by omega), if_neg (by omega), if_neg (by omega)]
    exact h5 j hj'

/-- Block b reads as the index D. -/
def IMap (w : World) (b : Nat) (D : DataW Unit) : Prop := w.ownsMap Try.prog 3 (plainElem Try.prog 3) b (Maps.size D) D
theorem IMap.of {w : World} {b n : Nat} {D : DataW Unit} (h : w.ownsMap Try.prog 3 (plainElem Try.prog 3) b n D) : IMap w b D := by
  obtain ⟨es, clock, hb, F, hs, rfl⟩ := h
  exact ⟨es, clock, hb, F, by simp [Maps.size, length_sorted], rfl⟩
theorem IMap.kept {w w' : World} {b : Nat} {D : DataW Unit} (h : IMap w b D) (hk : w'.heap[b]? = w.heap[b]?) : IMap w' b D := by
  obtain ⟨es, clock, hb, r⟩ := h
  exact ⟨es, clock, hk.trans hb, r⟩
theorem keyInt : Keyed Try.prog 3 := int_keyed Try.underlying3

/-- A wheel that has its memory: block p; the row in block g, the index in block m. -/
structure Whl (w : World) (p g cap m n : Nat) (clk : Int) (B : PA) (D : DataW Unit) : Prop where
  blk : Blk w p #[.slice (some ⟨g, 0, none⟩) n cap, .map (some m), .int .i64 clk] 52
  size : B.size = n
  row : RowG w g cap B
  map : IMap w m D
  pg : p ≠ g
  pm : p ≠ m
  gm : g ≠ m
/-- The blocks of a wheel that put writes. -/
def GM (g m : Nat) (k : Nat) : Prop := k = g ∨ k = m
theorem Whl.kept {S : Nat → Prop} {w w' : World} {p g cap m n : Nat} {clk : Int} {B : PA} {D : DataW Unit} (h : Whl w p g cap m n clk B D) (hk : KeptS S w w') (h1 : ¬ S p) (h2 : ¬ S g) (h3 : ¬ S m) : Whl w' p g cap m n clk B D :=
  ⟨hk.blk h.blk h1, h.size, h.row.kept (hk.block g h.row.lt h2), h.map.kept (hk.block m h.map.lt h3), h.pg, h.pm, h.gm⟩

set_option maxRecDepth 100000 in
set_option maxHeartbeats 1000000 in
theorem put_any (p g cap m n i : Nat) (clk : Int) (B : PA) (D : DataW Unit) (x1 x2 : Int) (hwf : (Lit.int .i64 x2).wf = true) (hi : i < n) (hn : n ≤ 1000000) (hD : Maps.size D ≤ 1000000) (w : World) (h : Whl w p g cap m n clk B D) :
    Calls Try.prog 26 #[.pointer (some ⟨p, 0, none⟩), .int .i64 (i : Int), .agg #[.int .i64 x1, .int .i64 x2]] w fun e w' => e = .returned (.tuple #[]) ∧ Whl w' p g cap m n clk (B.setIfInBounds i (x1, x2)) (D.put (IL x2) (.lit (.int .i64 i))) ∧ KeptS (GM g m) w w' := by
  obtain ⟨w1, hw1⟩ := nm (w.alloc (.cells #[.int .i64 x1, .int .i64 x2] 28))
  obtain ⟨b, hb⟩ := nm w.heap.size
  have H : Whl w1 p g cap m n clk B D := by
    rw [hw1.out]
    exact h.kept (S := fun _ => False) ((KeptS.refl _ _).alloc _) id id id
  have K1 : Hid (KeptS (GM g m) w w1) := by show KeptS _ _ _; rw [hw1.out]; exact (KeptS.refl _ _).alloc _
  have b0 : w1.cell? ⟨b, 0, none⟩ = some (.int .i64 x1) := by rw [hw1.out, hb.out]; exact (Blk.new w _ _).cell 0
  have b1 : w1.cell? ⟨b, 1, none⟩ = some (.int .i64 x2) := by rw [hw1.out, hb.out]; exact (Blk.new w _ _).cell 1
  have c0 : w1.cell? ⟨p, 0, none⟩ = some (.slice (some ⟨g, 0, none⟩) n cap) := H.blk.cell 0
  obtain ⟨e0, e1, e2, e3⟩ := H.row.cells i (by rw [H.size]; exact hi)
  have hgb : g < w.heap.size := h.row.lt
  have hmb : m < w.heap.size := h.map.lt
  have hpb : p < w.heap.size := h.blk.lt
  have hi0 : (0 : Int) ≤ (i : Int) := by omega
  have hi1 : (i : Int) < (n : Int) := by omega
  have hcap := H.row.cap
  rw [H.size] at hcap
  obtain ⟨hc1, hc2⟩ := hcap
  have HH := Lib.hid H
  clear H h
  go_enter Try.func26, Try.ntmps26
  go_wp2_with fail
  rw [← hb.out, ← hw1.out]
  refine wp_region_still_tail 7 (by kernel_rfl) (by kernel_rfl) ?_
  simp only [List.take_succ_cons, List.take_zero, List.drop_succ_cons, List.drop_zero]
  change wpStill _ _ (World.drew _) (fun a' => wpList _ _ _ _ a' (World.drew _)) _ _
  repeat still_step
  refine wpStill_nil ?_
  go_wp2_with fail
  obtain ⟨w3, hw3⟩ := nm ((w1.setCell ⟨g, i * 2, none⟩ (.int .i64 x1)).setCell ⟨g, i * 2 + 1, none⟩ (.int .i64 x2)).drew
  rw [← hw3.out]
  have K3 : KeptS (GM g m) w w3 := by rw [hw3.out]; exact ((K1.out.set ⟨g, i * 2, none⟩ (.inl rfl) _).set ⟨g, i * 2 + 1, none⟩ (.inl rfl) _).drew
  have R3 : RowG w3 g cap (B.setIfInBounds i (x1, x2)) := by rw [hw3.out]; exact HH.out.row.set i (by rw [HH.out.size]; exact hi) (x1, x2)
  have K13 : KeptS (fun k => k = g) w1 w3 := by rw [hw3.out]; exact (((KeptS.refl (fun k => k = g) w1).set ⟨g, i * 2, none⟩ rfl _).set ⟨g, i * 2 + 1, none⟩ rfl _).drew
  have B3 := K13.blk HH.out.blk HH.out.pg
  have M3 : IMap w3 m D := HH.out.map.kept (K13.block m HH.out.map.lt HH.out.gm.symm)
  have d1 : w3.cell? ⟨p, 1, none⟩ = some (.map (some m)) := B3.cell 1
  have d2 : w3.cell? ⟨b, 1, none⟩ = some (.int .i64 x2) := by
    rw [← b1]
    have hne : b ≠ g := by rw [hb.out]; omega
    have hbl : b < w1.heap.size := World.block_lt_of_cell? _ _ b1
    simp only [World.cell?, K13.block b hbl hne]
  have hkey : keyOf Try.prog 3 (.int .i64 x2) = some (IL x2) := keyOf_int_mk Try.underlying3 hwf
  have hwi : (Lit.int .i64 (i : Int)).wf = true := Go.WalkArith.wf_i64 ⟨by omega, by omega⟩
  have hM := Lib.hid M3
  clear b0 b1 c0 e0 e1 e2 e3 hw3 hw1 K1 M3
  have HK3 := Lib.hid K3
  have HR3 := Lib.hid R3
  have HB3 := Lib.hid B3
  clear K3 R3 K13 B3
  refine wp_region_still_tail 7 (by kernel_rfl) (by kernel_rfl) ?_
  simp only [List.take_succ_cons, List.take_zero, List.drop_succ_cons, List.drop_zero]
  change wpStill _ _ (World.drew _) (fun a' => wpList _ _ _ _ a' (World.drew _)) _ _
  repeat still_step
  refine wpStill_nil ?_
  have hmd := hM.out.drew
  go_wp2_with (at_mapUpdate; refine wpList_mapUpdate_own _ rfl _ _ _ 50 rfl 3 3 keyInt Try.underlying50 _ m _ D rfl hmd (by unfold maxLen; omega) _ _ (IL x2) rfl rfl hkey _ [] (plainElem_int Try.underlying3 hwi) ?_; intro w4 hm4 hg4)
  clear hmd
  go_end0
  have K4 : KeptS (fun k => k = m) w3 w4 := (KeptS.refl _ w3).drew.grown hg4 (fun b e _ => by cases e; rfl)
  refine ⟨rfl, ⟨K4.blk HB3.out HH.out.pm, by simpa using HH.out.size, HR3.out.kept (K4.block g HR3.out.lt HH.out.gm), IMap.of hm4, HH.out.pg, HH.out.pm, HH.out.gm⟩, HK3.out.trans (K4.mono fun k _ e => .inr e)⟩
end Go.Proofs.Ytipnfalmnoieiaa
