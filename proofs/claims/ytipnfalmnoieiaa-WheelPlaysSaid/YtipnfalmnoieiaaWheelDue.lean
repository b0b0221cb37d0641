/- The wheel as a row that rises: New, Due, Next, All, Clock. -/
import Derived.Test.YtipnfalmnoieiaaWheelSet
import Derived.Laws.CopyOwn
import Derived.Lib.SlBuf
namespace Go.Proofs.Ytipnfalmnoieiaa
open Go.RowKit Go.Shelf Go.Lib Go.Sort Go.Maps

set_option maxRecDepth 100000 in
set_option maxHeartbeats 1000000 in
theorem new_any (w : World) :
    Calls Try.prog 10 #[] w fun e w' => e = .returned (.pointer (some ⟨w.heap.size, 0, none⟩)) ∧ WL w' w.heap.size (fun k => k = w.heap.size) [] 0 ∧ Below w.heap.size w w' := by
  go_enter Try.func10, Try.ntmps10
  go_wp2_with fail
  go_ret
  exact ⟨rfl, ⟨List.Pairwise.nil, by simp [idsL], (fun x hx => by cases hx), by simp, .inl ⟨rfl, Blk.new _ _ _, fun _ => Iff.rfl⟩⟩, bOld _⟩

set_option maxRecDepth 100000 in
set_option maxHeartbeats 1000000 in
theorem clock_any (p : Nat) (F : Nat → Prop) (L : List (Int × Int)) (clk : Int) (w : World) (h : WL w p F L clk) :
    Calls Try.prog 20 #[.pointer (some ⟨p, 0, none⟩)] w fun e w' => e = .returned (.int .i64 clk) ∧ w = w' := by
  obtain ⟨ao, cap, mv, c, c0, c1, c2, hl⟩ := h.view 0 (by decide)
  clear h hl
  go_enter Try.func20, Try.ntmps20
  go_wp2_with fail
  go_ret
  exact ⟨rfl, rfl⟩

/-- The first of a wheel's memory. -/
theorem WL.first {w : World} {p : Nat} {F : Nat → Prop} {L : List (Int × Int)} {x : Int × Int} {clk : Int} (h : WL w p F (x :: L) clk) :
    ∃ g cap, w.cell? ⟨p, 0, none⟩ = some (.slice (some ⟨g, 0, none⟩) (x :: L).length cap) ∧ w.cell? ⟨g, 0, none⟩ = some (.int .i64 x.1) ∧ w.cell? ⟨g, 1, none⟩ = some (.int .i64 x.2) := by
  rcases h.mem with ⟨e, _⟩ | ⟨g, cap, m, A, D, h1, h2, h3, h4, h5⟩
  · cases e
  · have hs : 0 < A.size := by rw [h1.size]; simp
    have hf := first_head h4 h2 h.asc
    obtain ⟨e0, e1, _⟩ := h1.row.cells 0 hs
    rw [hf] at e0 e1
    exact ⟨g, cap, h1.blk.cell 0, by simpa using e0, by simpa using e1⟩

def NextV (L : List (Int × Int)) : Value := match L with
  | [] => .tuple #[.agg #[.int .i64 0, .int .i64 0], .bool false]
  | x :: _ => .tuple #[.agg #[.int .i64 x.1, .int .i64 x.2], .bool true]
set_option maxRecDepth 100000 in
set_option maxHeartbeats 1000000 in
theorem next_none (p : Nat) (F : Nat → Prop) (clk : Int) (w : World) (h : WL w p F [] clk) :
    Calls Try.prog 12 #[.pointer (some ⟨p, 0, none⟩)] w fun e w' => e = .returned (.tuple #[.agg #[.int .i64 0, .int .i64 0], .bool false]) ∧ Below w.heap.size w w' := by
  obtain ⟨ao, cap, mv, c, c0, c1, c2, hl⟩ := h.view 0 (by decide)
  have c0' : (w.alloc (.cells #[.int .i64 0, .int .i64 0] 28)).cell? ⟨p, 0, none⟩ = some (.slice ao 0 cap) := Lib.cell?_alloc_some _ c0
  clear h hl c1 c2 c0
  go_enter Try.func12, Try.ntmps12
  go_wp2_with fail
  exact bodyPost_ret (v := .tuple #[.agg #[.int .i64 0, .int .i64 0], .bool false]) (by simp [results, Try.results12, go_sem]) rfl ⟨rfl, bOld _⟩
set_option maxRecDepth 100000 in
set_option maxHeartbeats 1000000 in
theorem next_some (p : Nat) (F : Nat → Prop) (L : List (Int × Int)) (x1 x2 clk : Int) (w : World) (h : WL w p F ((x1, x2) :: L) clk) :
    Calls Try.prog 12 #[.pointer (some ⟨p, 0, none⟩)] w fun e w' => e = .returned (.tuple #[.agg #[.int .i64 x1, .int .i64 x2], .bool true]) ∧ Below w.heap.size w w' := by
  obtain ⟨g, cap, c0, e0, e1⟩ := h.first
  have hlen := h.len
  obtain ⟨n, hn⟩ := nm ((x1, x2) :: L).length
  have hn0 : 0 < n := by rw [hn.out]; simp
  rw [← hn.out] at c0 hlen
  have c0' : (w.alloc (.cells #[.int .i64 0, .int .i64 0] 28)).cell? ⟨p, 0, none⟩ = some (.slice (some ⟨g, 0, none⟩) n cap) := Lib.cell?_alloc_some _ c0
  have e0' : (w.alloc (.cells #[.int .i64 0, .int .i64 0] 28)).cell? ⟨g, 0, none⟩ = some (.int .i64 x1) := Lib.cell?_alloc_some _ e0
  have e1' : (w.alloc (.cells #[.int .i64 0, .int .i64 0] 28)).cell? ⟨g, 1, none⟩ = some (.int .i64 x2) := Lib.cell?_alloc_some _ e1
  have hne : ((n : Int) == 0) = false := by simp; omega
  have hi0 : (0 : Int) < (n : Int) := by omega
  clear h c0 e0 e1
  go_enter Try.func12, Try.ntmps12
  go_wp2_with fail
  exact bodyPost_ret (v := .tuple #[.agg #[.int .i64 x1, .int .i64 x2], .bool true]) (by simp [results, Try.results12, go_sem]) rfl ⟨rfl, bOld _⟩

/-- 'copy' onto a row that is known whole, elements of sz cells. -/
theorem run_copy_wide {P : Program} (w : World) (dT sT ty elem : TypeId) (sz g o dLen dCap : Nat) (a : Addr) (sLen sCap : Nat) (cur : Array Value) (t : TypeId) (cs : List Value)
    (hu : P.underlying dT = some (.slice elem)) (hs : (P.info? elem).map (·.size) = some sz) (hg : w.heap[g]? = some (.cells cur t (0, 0))) (hn : cs.length = Nat.min sLen dLen * sz)
    (hsrc : ∀ j v, cs[j]? = some v → w.cell? (a.add j) = some v) (hfit : o + cs.length ≤ cur.size) (h1 : ∀ v ∈ cs, v.oneCell' = true) :
    (Builtin.copy_ #[dT, sT] ty #[.slice (some ⟨g, o, none⟩) dLen dCap, .slice (some a) sLen sCap]).run P w =
      .ok (goInt (Nat.min sLen dLen)) (w.setRow g (cur.toList.take o ++ cs ++ cur.toList.drop (o + cs.length)).toArray) := by
  have hl := run_loadCells_list (P := P) w a cs hsrc
  have hst := run_storeCells_at P g o t cs 0 cur w hg (by simpa using hfit) h1
  cases hq : P.info? elem with
  | none => simp [hq] at hs
  | some i =>
    have hi : i.size = sz := by simpa [hq] using hs
    simp [Builtin.copy_, run_underlying hu, Builtin.lenOf, Builtin.firstCells, sizeOf, typeInfo, hq, hi, ← hn, hl, hst]
theorem run_copy_none_wide {P : Program} (w : World) (dT sT ty elem : TypeId) (d a : Option Addr) (dLen dCap sLen sCap sz : Nat) (hu : P.underlying dT = some (.slice elem)) (hs : (P.info? elem).map (·.size) = some sz) (hn : Nat.min sLen dLen = 0) :
    (Builtin.copy_ #[dT, sT] ty #[.slice d dLen dCap, .slice a sLen sCap]).run P w = .ok (goInt 0) w := by
  cases hq : P.info? elem with
  | none => simp [hq] at hs
  | some i =>
    have hl : ∀ (x : Addr), (loadCells x 0).run P w = .ok #[] w := fun x => by simpa using run_loadCells_list (P := P) w x [] (by simp)
    cases d <;> cases a <;> simp [Builtin.copy_, run_underlying hu, Builtin.lenOf, Builtin.firstCells, sizeOf, typeInfo, hq, hn, storeCells, hl]
/-- 'make([]Alarm, m)'. -/
theorem make_alarms (m : Nat) (h : m ≤ 1000000) (w : World) :
    (Instr.makeSlice 34 (.int .i64 (m : Int)) (.int .i64 (m : Int))).run Try.prog w = .ok (.slice (some ⟨w.heap.size, 0, none⟩) m m) (w.alloc (.cells (madeCells #[.int .i64 0, .int .i64 0] (m * 2)) 28)) := by
  obtain ⟨i0, hi, hz0, hz1, hz2⟩ := info_parts infoD
  have h := run_make (P := Try.prog) w 34 28 i0 (.agg #[.int .i64 0, .int .i64 0]) Try.underlying34 hi hz0 .i64 .i64 (m : Int) (m : Int) (by omega) (Int.le_refl _) (by rw [hz2]; omega) (by omega)
  simpa [hz1, Value.cells] using h

/-- A row that was copied whole, as the sort holds it. -/
theorem holds_row {w : World} {b : Nat} {ps : List (Int × Int)} (h : Blk w b (flatD ps).toArray 28) : HoldsD w b ps.toArray := by
  intro t0 ht0
  rw [size_flatK] at ht0
  have ht0' : t0 < ps.length * 2 := by simpa using ht0
  refine ⟨?_, h.free _⟩
  rw [Nat.zero_add, h.cell]
  simp only [List.getElem?_toArray]
  have hd : ps[t0 / 2]? = some (ps[t0 / 2]'(by omega)) := List.getElem?_eq_getElem _
  obtain ⟨g0, g1⟩ := flatD_get ps (t0 / 2) _ hd
  obtain ⟨k0, k1⟩ := flatK_get ps.toArray (t0 / 2) (by simp; omega)
  have e4 : (ps.toArray)[t0 / 2]! = ps[t0 / 2]'(by omega) := by rw [getElem!_pos _ _ (by simp; omega)]; simp
  rw [e4] at k0 k1
  rcases Nat.mod_two_eq_zero_or_one t0 with hm2 | hm2
  · rw [show t0 / 2 * 2 = t0 from by omega] at g0 k0
    rw [g0, k0]; rfl
  · rw [show t0 / 2 * 2 + 1 = t0 from by omega] at g1 k1
    rw [g1, k1]; rfl
theorem sizeAlarm : (Try.prog.info? 28).map (·.size) = some 2 := by kernel_rfl

set_option maxRecDepth 100000 in
set_option maxHeartbeats 4000000 in
theorem all_any (p : Nat) (F : Nat → Prop) (L : List (Int × Int)) (clk : Int) (w : World) (h : WL w p F L clk) :
    Calls Try.prog 14 #[.pointer (some ⟨p, 0, none⟩)] w fun e w' => (∃ ao cap, e = .returned (.slice ao L.length cap) ∧ SlP w' ao L ∧ ∀ a, ao = some a → w.heap.size ≤ a.block ∧ a.block < w'.heap.size) ∧ Below w.heap.size w w' := by
  by_cases h0 : L = []
  · subst h0
    obtain ⟨ao, cap, mv, c, c0, c1, c2, hl⟩ := h.view 0 (by decide)
    have hmk := make_alarms 0 (by decide) w
    have hB := Lib.hid (bOld (w := w) (.cells (madeCells #[.int .i64 0, .int .i64 0] (0 * 2)) 28))
    have c0' : (w.alloc (.cells (madeCells #[.int .i64 0, .int .i64 0] (0 * 2)) 28)).cell? ⟨p, 0, none⟩ = some (.slice ao 0 cap) := Lib.cell?_alloc_some _ c0
    obtain ⟨w1, hw1⟩ := nm (w.alloc (.cells (madeCells #[.int .i64 0, .int .i64 0] (0 * 2)) 28))
    rw [← hw1.out] at hmk c0' hB
    obtain ⟨b, hb⟩ := nm w.heap.size
    have HBS : Hid (b < w1.heap.size) := by show _ < _; rw [hb.out, hw1.out]; simp
    rw [← hb.out] at hmk
    rw [show ((0 : Nat) : Int) = 0 from rfl] at hmk
    clear h hl c1 c2
    go_enter Try.func14, Try.ntmps14
    go_wp2_with (with_reducible refine Lib.wpList_copy_run (o := ⟨some 17, _, _, _, _, _⟩) _ rfl (.tmp 12) (.tmp 16) 34 34 rfl _ _ rfl rfl (run_copy_none_wide _ _ _ _ 28 _ _ _ _ _ _ 2 Try.underlying34 sizeAlarm rfl) ?_)
    refine (sortfunc_none _ _ _ _).mono ?_; rintro e w2 ⟨rfl, rfl⟩
    go_wp2_with fail
    go_ret
    exact ⟨⟨_, _, rfl, SlP.nil _ _, fun a ha => by cases ha; exact ⟨Nat.le_of_eq hb.out.symm, HBS.out⟩⟩, hB.out⟩
  · rcases h.mem with ⟨e, _⟩ | ⟨g, cap, m, A, D, h1, h2, h3, h4, h5⟩
    · exact absurd e h0
    · have hlen := h.len
      obtain ⟨n, hn⟩ := nm L.length
      have hn0 : 0 < n := by rw [hn.out]; exact List.length_pos_iff.2 h0
      rw [← hn.out] at h1 hlen ⊢
      have hAs : A.toList.length = n := h1.size
      have hmk := make_alarms n (by omega) w
      have hB := Lib.hid (bOld (w := w) (.cells (madeCells #[.int .i64 0, .int .i64 0] (n * 2)) 28))
      have hbl := Blk.new w (madeCells #[.int .i64 0, .int .i64 0] (n * 2)) 28
      obtain ⟨w1, hw1⟩ := nm (w.alloc (.cells (madeCells #[.int .i64 0, .int .i64 0] (n * 2)) 28))
      obtain ⟨b, hb⟩ := nm w.heap.size
      have hw1' : Whl w1 p g cap m n clk A D := by rw [hw1.out]; exact h1.kept (S := fun _ => False) ((KeptS.refl _ _).alloc _) (fun h => h) (fun h => h) (fun h => h)
      rw [← hw1.out, ← hb.out] at hmk hbl
      rw [← hw1.out] at hB
      have hsl : SlP w1 (some ⟨g, 0, none⟩) A.toList := by
        obtain ⟨_, _, e, _, _, hs, _⟩ := (hw1'.row.own (base := 0) (Nat.zero_le _)).sl
        injection e with e1 e2 e3
        rw [e1]; exact hs
      have hfl := flatD_length A.toList
      rw [hAs] at hfl
      have hcopy := fun ty => run_copy_wide (P := Try.prog) w1 34 34 ty 28 2 b 0 n n ⟨g, 0, none⟩ n cap (madeCells #[.int .i64 0, .int .i64 0] (n * 2)) 28 (flatD A.toList) Try.underlying34 sizeAlarm hbl (by rw [hfl]; simp) hsl.newsA (by rw [hfl, size_madeCells]; omega) (flatD_cell _)
      have hrow : ((madeCells #[Value.int .i64 0, .int .i64 0] (n * 2)).toList.take 0 ++ flatD A.toList ++ (madeCells #[Value.int .i64 0, .int .i64 0] (n * 2)).toList.drop (0 + (flatD A.toList).length)).toArray = (flatD A.toList).toArray := by
        rw [hfl, List.drop_of_length_le (by simp [size_madeCells]), List.append_nil, List.take_zero, List.nil_append]
      simp only [hrow, Nat.min_self] at hcopy
      have hbl2 : Blk (w1.setRow b (flatD A.toList).toArray) b (flatD A.toList).toArray 28 := setRow_heap w1 b _ _ _ _ hbl
      have hB2 : Hid (Below w.heap.size w (w1.setRow b (flatD A.toList).toArray)) := below_setRow hB.out (Nat.le_of_eq hb.out.symm) _
      have c0 : w.cell? ⟨p, 0, none⟩ = some (.slice (some ⟨g, 0, none⟩) n cap) := h1.blk.cell 0
      have c1 : w1.cell? ⟨p, 0, none⟩ = some (.slice (some ⟨g, 0, none⟩) n cap) := hw1'.blk.cell 0
      obtain ⟨w2, hw2⟩ := nm (w1.setRow b (flatD A.toList).toArray)
      rw [← hw2.out] at hcopy hbl2 hB2
      have hbw2 := hbl2.lt
      have hsort := sortfunc_any b n A.toList w2 (holds_row hbl2) hbl2.lt (by omega)
      rw [msD_perm_asc h4 h.asc, hAs] at hsort
      have HS := Lib.hid hsort
      clear h h0 h1 h2 h3 h4 h5 hsl hfl hrow hbl hbl2 hw1' hsort hAs hw1 hw2
      go_enter Try.func14, Try.ntmps14
      go_wp2_with (with_reducible refine Lib.wpList_copy_run (o := ⟨some 17, _, _, _, _, _⟩) _ rfl (.tmp 12) (.tmp 16) 34 34 rfl _ _ rfl rfl (hcopy _) ?_)
      refine HS.out.mono ?_; rintro e w3 ⟨rfl, hH3, hK3⟩
      have hB3 : Hid (Below w.heap.size w w3) := hB2.out.trans (hK3.below (Nat.le_of_eq hb.out.symm) hB2.out.size)
      have hbw : b < w3.heap.size := by
        have h1 := hK3.size
        omega
      have hsl : SlP w3 (some ⟨b, 0, none⟩) L := by simpa using hH3.sl hbw
      have HSL := Lib.hid hsl
      have HBW := Lib.hid hbw
      clear hH3 hK3 hbw hsl
      go_wp2_with fail
      go_ret
      exact ⟨⟨_, n, rfl, HSL.out, fun a ha => by cases ha; exact ⟨Nat.le_of_eq hb.out.symm, HBW.out⟩⟩, hB3.out⟩

end Go.Proofs.Ytipnfalmnoieiaa
