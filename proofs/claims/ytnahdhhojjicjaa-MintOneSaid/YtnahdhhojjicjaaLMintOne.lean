/- MintOne: for every two numbers and every two lists the law returns true. -/
import Derived.Test.YtnahdhhojjicjaaOpenPair
import Derived.Test.YtnahdhhojjicjaaOnePlain
import Derived.Test.YtnahdhhojjicjaaNumsRef
import Derived.Test.YtnahdhhojjicjaaSame
import Derived.Test.YtnahdhhojjicjaaMintAwake
import Derived.Deep.RegionLaw
import Derived.Test.YtnahdhhojjicjaaNext
namespace Go.Proofs.Ytnahdhhojjicjaa
open Go.RowKit

/-- A number's lowest 50 bits. -/
def m50 (z : Int) : Int := bits .and .i64 z 1125899906842623
theorem m50_le (z : Int) : 0 ≤ m50 z ∧ m50 z ≤ 1125899906842624 := by
  obtain ⟨K, hK, h⟩ := and_mask z 1125899906842623 (by decide)
  have h2 : m50 z = (K : Int) := h
  omega
/-- The list that the law makes of one. -/
def cut50 (ss : List Int) : List Int := (ss.take 20).map m50
theorem cut50_len (ss : List Int) : (cut50 ss).length ≤ 20 := by rw [cut50, List.length_map, List.length_take]; omega
theorem cut50_le (ss : List Int) : ∀ z ∈ cut50 ss, 0 ≤ z ∧ z ≤ 1125899906842624 := by
  intro z hz
  obtain ⟨y, _, rfl⟩ := List.mem_map.1 hz
  exact m50_le y

theorem SlAt.keptBlk {w w' : World} {c : Nat} {cs : Array Value} {t : TypeId} {ao : Option Addr} {zs : List Int} (h : SlAt w ao (zs.map (Value.int .i64))) (hb : Blk w c cs t) (hno : ∀ (i : Nat) (z : Int), cs[i]? ≠ some (.int .i64 z)) (hk : Kept c w w') : SlAt w' ao (zs.map (Value.int .i64)) := by
  intro k hk'
  obtain ⟨b, off, h1, h2, h3⟩ := h k hk'
  refine ⟨b, off, h1, Nat.lt_of_lt_of_le h2 hk.size, fun j hj => ?_⟩
  have hne : b ≠ c := by
    rintro rfl
    have h4 := h3 j hj
    rw [Blk.cell hb] at h4
    rw [List.length_map] at hj
    rw [List.getElem?_map, List.getElem?_eq_getElem hj] at h4
    exact hno _ _ h4
  rw [← h3 j hj]
  simp only [World.cell?, hk.block b h2 hne]

/-- While the law fills one of its lists: block p is the parameter's box, block m the two lists. -/
structure Fill (w wS : World) (p m : Nat) (P : Array Value) (row : Value → Array Value) (ss : List Int) (k : Nat) (v : Value) (wr : World) : Prop where
  lp : p < wS.heap.size
  lm : m < wS.heap.size
  ne : p ≠ m
  lw : w.heap.size ≤ m
  lS : Below w.heap.size w wS
  box : Blk wr p P 27
  two : Blk wr m (row v) 27
  own : wr.ownsRow wS.heap.size 3 1 v k (((ss.take k).map m50).map (Value.int .i64))
  kept : Kept m wS wr

theorem Fill.far {w wS : World} {p m : Nat} {P : Array Value} {row : Value → Array Value} {ss : List Int} {k : Nat} {v : Value} {wr w2 : World} {o : Obj} (h : Fill w wS p m P row ss k v wr) (hg : (wr.alloc o).grownBy w2 v.ownBlock) :
    Blk w2 p P 27 ∧ Blk w2 m (row v) 27 := by
  have hne : ∀ k, k < wS.heap.size → some k ≠ v.ownBlock := fun k hk e => by have := (h.own.lt k e.symm).1; omega
  exact ⟨grown_blk hg (h.box.alloc o) (hne _ h.lp), grown_blk hg (h.two.alloc o) (hne _ h.lm)⟩

theorem Fill.push {w wS : World} {p m : Nat} {P : Array Value} {row : Value → Array Value} {ss : List Int} {k : Nat} {v : Value} {wr w2 : World} {o : Obj} (h : Fill w wS p m P row ss k v wr) (hg : (wr.alloc o).grownBy w2 v.ownBlock) {g cap : Nat} {z : Int} (hk : k < ss.length) (hz : z = m50 ss[k])
    (hown : w2.ownsRow wS.heap.size 3 1 (.slice (some ⟨g, 0, none⟩) (k + 1) cap) (k + 1) (((ss.take k).map m50).map (Value.int .i64) ++ [.int .i64 z])) (j : Nat) (hrow : ∀ v v' : Value, (row v).setIfInBounds j v' = row v') :
    Fill w wS p m P row ss (k + 1) (.slice (some ⟨g, 0, none⟩) (k + 1) cap) (w2.setCell ⟨m, j, none⟩ (.slice (some ⟨g, 0, none⟩) (k + 1) cap)) := by
  obtain ⟨d1, d2⟩ := h.far hg
  have hge : wS.heap.size ≤ g := (hown.lt g rfl).1
  have hks := h.kept.size
  have hlm := h.lm
  have hg2 : w2.grownBy (w2.setCell ⟨m, j, none⟩ (.slice (some ⟨g, 0, none⟩) (k + 1) cap)) (some m) :=
    ⟨rfl, rfl, rfl, by simp [World.setCell], fun k _ hk => Below.heap_setCell _ _ _ _ (fun e => hk (by rw [e]))⟩
  refine ⟨h.lp, h.lm, h.ne, h.lw, h.lS, Blk.setOther d1 h.ne _, ?_, ?_, ?_⟩
  · have := Blk.set d2 j (.slice (some ⟨g, 0, none⟩) (k + 1) cap)
    rwa [hrow] at this
  · have := hown.kept hg2 (.inr (by simp only [Value.ownBlock]; intro e; cases e; omega))
    rw [List.take_succ_eq_append_getElem hk, List.map_append, List.map_append, List.map_singleton, List.map_singleton, ← hz]
    exact this
  · refine ⟨(hg2.os.trans hg.os).trans h.kept.os, (hg2.tape.trans hg.tape).trans h.kept.tape, (hg2.output.trans hg.output).trans h.kept.output, Nat.le_trans (Nat.le_trans hks (by simp)) (Nat.le_trans hg.size hg2.size), fun i hi hne => ?_⟩
    have hsz : wr.heap.size + 1 ≤ w2.heap.size := by have := hg.size; simpa using this
    rw [hg2.block i (by omega) (by simp [hne]), hg.block i (by simp; omega) (by intro e; have := (h.own.lt i e.symm).1; omega), Below.heap_alloc _ _ _ (by omega)]
    exact h.kept.block i hi hne

/-- The law's two lists behind j rounds. -/
def Two2 (wr : World) (m : Nat) (ss0 ss1 : List Int) : Nat → Prop
  | 0 => Blk wr m #[.slice none 0 0, .slice none 0 0] 27
  | 1 => ∃ ao cap, Blk wr m #[.slice ao (cut50 ss0).length cap, .slice none 0 0] 27 ∧ (cut50 ss0).length ≤ cap ∧ SlAt wr ao ((cut50 ss0).map (Value.int .i64))
  | _ => ∃ ao cap ao1 cap1, Blk wr m #[.slice ao (cut50 ss0).length cap, .slice ao1 (cut50 ss1).length cap1] 27 ∧ (cut50 ss0).length ≤ cap ∧ SlAt wr ao ((cut50 ss0).map (Value.int .i64)) ∧ (cut50 ss1).length ≤ cap1 ∧ SlAt wr ao1 ((cut50 ss1).map (Value.int .i64))

theorem Fill.drew {w wS : World} {p m : Nat} {P : Array Value} {row : Value → Array Value} {ss : List Int} {k : Nat} {v : Value} {wr : World} (h : Fill w wS p m P row ss k v wr) : Fill w wS p m P row ss k v wr.drew :=
  ⟨h.lp, h.lm, h.ne, h.lw, h.lS, h.box, h.two, h.own, h.kept.drew⟩
theorem Fill.old {w wS : World} {p m : Nat} {P : Array Value} {row : Value → Array Value} {ss : List Int} {k : Nat} {v : Value} {wr : World} (h : Fill w wS p m P row ss k v wr) : Below w.heap.size w wr := bKept h.lS h.kept h.lw
theorem Fill.done {w wS : World} {p m : Nat} {P : Array Value} {row : Value → Array Value} {ss : List Int} {k : Nat} {v : Value} {wr : World} (h : Fill w wS p m P row ss k v wr) (hk : k ≤ ss.length) (hk2 : k = 20 ∨ k = ss.length) (hk3 : k ≤ 20) :
    ∃ ao cap, v = .slice ao (cut50 ss).length cap ∧ (cut50 ss).length ≤ cap ∧ SlAt wr ao ((cut50 ss).map (Value.int .i64)) := by
  have e : (ss.take k).map m50 = cut50 ss := by
    rw [cut50]
    rcases hk2 with rfl | rfl
    · rfl
    · rw [List.take_of_length_le (Nat.le_refl _), List.take_of_length_le hk3]
  have hl : (cut50 ss).length = k := by rw [← e, List.length_map, List.length_take]; omega
  have ho := h.own
  rw [e, ← hl] at ho
  exact SlAt.own ho

theorem noInt2 (a0 a1 : Option Addr) (l0 l1 c0 c1 : Nat) (i : Nat) (z : Int) : (#[Value.slice a0 l0 c0, .slice a1 l1 c1] : Array Value)[i]? ≠ some (.int .i64 z) := by
  rcases i with _ | _ | i <;> simp

set_option maxRecDepth 100000 in
set_option maxHeartbeats 8000000 in
theorem mintOne_walk (a b : Nat) (hab : a < 18446744073709551616) (hbb : b < 18446744073709551616) (a0 a1 : Option Addr) (l0 l1 c0 c1 : Nat) (ss0 ss1 : List Int) (hl0 : ss0.length = l0) (hl1 : ss1.length = l1) (w : World)
    (hat0 : SlAt w a0 (ss0.map (Value.int .i64))) (hat1 : SlAt w a1 (ss1.map (Value.int .i64))) :
    Calls Try.prog 4 #[.int .u64 a, .int .u64 b, .agg #[.slice a0 l0 c0, .slice a1 l1 c1]] w fun e w' => e = .returned (.bool true) ∧ Below w.heap.size w w' := by
  have HAT0 := Lib.hid hat0
  have HAT1 := Lib.hid hat1
  have HL0 := Lib.hid hl0
  have HL1 := Lib.hid hl1
  clear hat0 hat1 hl0 hl1
  obtain ⟨i0, hi, hz0, hz1, hz2⟩ := info_parts infoInt
  go_enter Try.func4, Try.ntmps4
  go_wp2_with fail
  refine (awake_any _).mono ?_; rintro e w0 ⟨rfl, hB⟩
  go_wp2_with fail
  obtain ⟨p, hp⟩ := nm w.heap.size
  obtain ⟨m, hm⟩ := nm w0.heap.size
  have hBS := hB.size
  simp at hBS
  have hpm : p ≠ m := by rw [hp.out, hm.out]; omega
  have hwm : w.heap.size ≤ m := by rw [hm.out]; omega
  have hold : Below w.heap.size w (w0.alloc (.cells #[.slice none 0 0, .slice none 0 0] 27)) := bNew (bNext (bOld _) hB) _
  have hbx : Blk (w0.alloc (.cells #[.slice none 0 0, .slice none 0 0] 27)) p #[.slice a0 l0 c0, .slice a1 l1 c1] 27 := by
    rw [hp.out]
    exact (Blk.below (Blk.new w _ _) hB (by simp)).alloc _
  have htw : Blk (w0.alloc (.cells #[.slice none 0 0, .slice none 0 0] 27)) m #[.slice none 0 0, .slice none 0 0] 27 := by
    rw [hm.out]; exact Blk.new _ _ _
  rw [← hp.out, ← hm.out]
  clear hB hBS
  go_loopw [9] (fun i wr => ∃ (j : Nat) (jz : Int), ((jz = 0 ∧ j = 0) ∨ (jz = 1 ∧ j = 1) ∨ (jz = 2 ∧ j = 2)) ∧ i = .int .i64 jz ∧ Below w.heap.size w wr ∧ Blk wr p #[.slice a0 l0 c0, .slice a1 l1 c1] 27 ∧ Two2 wr m ss0 ss1 j) (fun i _ => 2 - (intOf i).toNat)
  case atStart => exact ⟨0, 0, .inl ⟨rfl, rfl⟩, rfl, hold, hbx, htw⟩
  case round =>
    clear hold hbx htw hp hm
    obtain ⟨j, jz, hj3, rfl, hold, hbx, htw⟩ := hrel
    rcases hj3 with ⟨rfl, rfl⟩ | ⟨rfl, rfl⟩ | ⟨rfl, rfl⟩
    · have hF0 : Fill w wr p m #[.slice a0 l0 c0, .slice a1 l1 c1] (fun v => #[v, .slice none 0 0]) ss0 0 (.slice none 0 0) wr := ⟨hbx.lt, Blk.lt htw, hpm, hwm, hold, hbx, htw, ⟨rfl, .inl ⟨rfl, rfl⟩⟩, Kept.refl _ _⟩
      obtain ⟨wS, hwS⟩ := nm wr
      have hF : Fill w wS p m #[.slice a0 l0 c0, .slice a1 l1 c1] (fun v => #[v, .slice none 0 0]) ss0 0 (.slice none 0 0) wr := by rw [hwS.out]; exact hF0
      clear hF0 hbx htw hold hwS
      go_wp2_with fail
      go_loopw [10] (fun i wq => ∃ (k : Nat) (v : Value), k ≤ 20 ∧ k ≤ l0 ∧ i = .int .i64 (k : Int) ∧ Fill w wS p m #[.slice a0 l0 c0, .slice a1 l1 c1] (fun v => #[v, .slice none 0 0]) ss0 k v wq) (fun i _ => 20 - (intOf i).toNat)
      case atStart => exact ⟨0, _, by omega, by omega, rfl, hF⟩
      case round =>
        clear hF
        obtain ⟨k, v, hk1, hk2, rfl, hF⟩ := hrel
        have cP : wr.cell? ⟨p, 0, none⟩ = some (.slice a0 l0 c0) := hF.box.cell 0
        have cM : wr.cell? ⟨m, 0, none⟩ = some v := hF.two.cell 0
        have cMo : ∀ o : Obj, (wr.alloc o).cell? ⟨m, 0, none⟩ = some v := fun o => (hF.two.alloc o).cell 0
        by_cases hlt : k < l0 ∧ k < 20
        · obtain ⟨hlt1, hlt2⟩ := hlt
          obtain ⟨bs, off, rfl, hbs, hcell⟩ := SlAt.int HAT0.out k (by rw [HL0.out]; exact hlt1)
          obtain ⟨z, hzz⟩ := nm (ss0[k]'(by rw [HL0.out]; exact hlt1))
          rw [← hzz.out] at hcell
          have hcz : wr.cell? ⟨bs, off + k, none⟩ = some (.int .i64 z) := (hF.old.cell (p := ⟨bs, off + k, none⟩) hbs).trans hcell
          clear hcell
          have hm50 : bits .and .i64 z 1125899906842623 = m50 z := rfl
          have hks := hF.kept.size
          obtain ⟨Lk, hLk⟩ := nm (((ss0.take k).map m50).map (Value.int .i64))
          have hown := hF.own
          rw [← hLk.out] at hown
          have hownD : (wr.alloc (.cells #[.int .i64 (m50 z)] 3)).drew.ownsRow wS.heap.size 3 1 v k Lk := hown.alloc _
          have hnewD : (wr.alloc (.cells #[.int .i64 (m50 z)] 3)).drew.heap[wr.heap.size]? = some (.cells #[.int .i64 (m50 z)] 3 (0, 0)) := heap_alloc_new wr _
          go_wp2_with fail
          go_region_law
            (refine step_append_lies _ (by rfl) _ _ 26 (by rfl) wS.heap.size 3 i0 (.int .i64 0) 1 8 Try.underlying26 hi hz0 hz1 hz2 rfl (by decide) v k _ (by rfl) hownD ⟨wr.heap.size, 0, none⟩ 1 1 [.int .i64 (m50 z)] (by rfl) rfl
              (World.news_of_block hnewD) (by simp [Value.oneCell']) (by decide) (by unfold maxLen; omega) (by omega) (Nat.le_trans hks (by simp)) _ rfl ?_
             intro g cap w2 hown2 hgrow hat hlt
             have hgr : (wr.alloc (.cells #[.int .i64 (m50 z)] 3)).grownBy w2 v.ownBlock := ⟨hgrow.os, hgrow.tape, hgrow.output, hgrow.size, hgrow.block⟩
             obtain ⟨d1, d2⟩ := hF.far hgr
             have e1 : w2.cell? ⟨m, 0, none⟩ = some v := d2.cell 0
             have e2 : w2.frozen? ⟨m, 0, none⟩ = false := d2.free 0
             rw [hLk.out] at hown2
             have hF2 := hF.push hgr (by rw [HL0.out]; exact hlt1) (by rw [← hzz.out]) hown2 0 (fun _ _ => rfl)
             clear hown2 hgrow hgr d1 d2)
          all_goals
            clear hown hownD hnewD hcz hF cP cM cMo
            go_wp2_with fail
            go_roundw
            case rel => exact ⟨k + 1, _, by omega, by omega, by go_num, by first | exact hF2 | exact hF2.drew⟩
            case measure => simp [intOf]; omega
        · obtain ⟨ao0, cap0, rfl, hcap0, hsl0⟩ := hF.done (by rw [HL0.out]; exact hk2) (by rw [HL0.out]; omega) hk1
          have htw := hF.two
          have hT : Two2 wr m ss0 ss1 1 := ⟨ao0, cap0, htw, hcap0, hsl0⟩
          have hold := hF.old
          have hbx := hF.box
          clear hF cM cMo
          go_wp2_with fail
          all_goals
            exact ⟨⟨1, 1, by simp, rfl, hold, hbx, hT⟩, by simp [intOf]⟩
    · obtain ⟨ao0, cap0, htw, hcap0, hsl0⟩ := htw
      have hF0 : Fill w wr p m #[.slice a0 l0 c0, .slice a1 l1 c1] (fun v => #[.slice ao0 (cut50 ss0).length cap0, v]) ss1 0 (.slice none 0 0) wr := ⟨hbx.lt, Blk.lt htw, hpm, hwm, hold, hbx, htw, ⟨rfl, .inl ⟨rfl, rfl⟩⟩, Kept.refl _ _⟩
      obtain ⟨wS, hwS⟩ := nm wr
      have hF : Fill w wS p m #[.slice a0 l0 c0, .slice a1 l1 c1] (fun v => #[.slice ao0 (cut50 ss0).length cap0, v]) ss1 0 (.slice none 0 0) wr := by rw [hwS.out]; exact hF0
      have HSL0 : Hid (Blk wS m #[.slice ao0 (cut50 ss0).length cap0, .slice none 0 0] 27 ∧ SlAt wS ao0 ((cut50 ss0).map (Value.int .i64))) := by rw [hwS.out]; exact ⟨htw, hsl0⟩
      clear hsl0
      clear hF0 hbx htw hold hwS
      go_wp2_with fail
      go_loopw [10] (fun i wq => ∃ (k : Nat) (v : Value), k ≤ 20 ∧ k ≤ l1 ∧ i = .int .i64 (k : Int) ∧ Fill w wS p m #[.slice a0 l0 c0, .slice a1 l1 c1] (fun v => #[.slice ao0 (cut50 ss0).length cap0, v]) ss1 k v wq) (fun i _ => 20 - (intOf i).toNat)
      case atStart => exact ⟨0, _, by omega, by omega, rfl, hF⟩
      case round =>
        clear hF
        obtain ⟨k, v, hk1, hk2, rfl, hF⟩ := hrel
        have cP : wr.cell? ⟨p, 1, none⟩ = some (.slice a1 l1 c1) := hF.box.cell 1
        have cM : wr.cell? ⟨m, 1, none⟩ = some v := hF.two.cell 1
        have cMo : ∀ o : Obj, (wr.alloc o).cell? ⟨m, 1, none⟩ = some v := fun o => (hF.two.alloc o).cell 1
        by_cases hlt : k < l1 ∧ k < 20
        · obtain ⟨hlt1, hlt2⟩ := hlt
          obtain ⟨bs, off, rfl, hbs, hcell⟩ := SlAt.int HAT1.out k (by rw [HL1.out]; exact hlt1)
          obtain ⟨z, hzz⟩ := nm (ss1[k]'(by rw [HL1.out]; exact hlt1))
          rw [← hzz.out] at hcell
          have hcz : wr.cell? ⟨bs, off + k, none⟩ = some (.int .i64 z) := (hF.old.cell (p := ⟨bs, off + k, none⟩) hbs).trans hcell
          clear hcell
          have hm50 : bits .and .i64 z 1125899906842623 = m50 z := rfl
          have hks := hF.kept.size
          obtain ⟨Lk, hLk⟩ := nm (((ss1.take k).map m50).map (Value.int .i64))
          have hown := hF.own
          rw [← hLk.out] at hown
          have hownD : (wr.alloc (.cells #[.int .i64 (m50 z)] 3)).drew.ownsRow wS.heap.size 3 1 v k Lk := hown.alloc _
          have hnewD : (wr.alloc (.cells #[.int .i64 (m50 z)] 3)).drew.heap[wr.heap.size]? = some (.cells #[.int .i64 (m50 z)] 3 (0, 0)) := heap_alloc_new wr _
          go_wp2_with fail
          go_region_law
            (refine step_append_lies _ (by rfl) _ _ 26 (by rfl) wS.heap.size 3 i0 (.int .i64 0) 1 8 Try.underlying26 hi hz0 hz1 hz2 rfl (by decide) v k _ (by rfl) hownD ⟨wr.heap.size, 0, none⟩ 1 1 [.int .i64 (m50 z)] (by rfl) rfl
              (World.news_of_block hnewD) (by simp [Value.oneCell']) (by decide) (by unfold maxLen; omega) (by omega) (Nat.le_trans hks (by simp)) _ rfl ?_
             intro g cap w2 hown2 hgrow hat hlt
             have hgr : (wr.alloc (.cells #[.int .i64 (m50 z)] 3)).grownBy w2 v.ownBlock := ⟨hgrow.os, hgrow.tape, hgrow.output, hgrow.size, hgrow.block⟩
             obtain ⟨d1, d2⟩ := hF.far hgr
             have e1 : w2.cell? ⟨m, 1, none⟩ = some v := d2.cell 1
             have e2 : w2.frozen? ⟨m, 1, none⟩ = false := d2.free 1
             rw [hLk.out] at hown2
             have hF2 := hF.push hgr (by rw [HL1.out]; exact hlt1) (by rw [← hzz.out]) hown2 1 (fun _ _ => rfl)
             clear hown2 hgrow hgr d1 d2)
          all_goals
            clear hown hownD hnewD hcz hF cP cM cMo
            go_wp2_with fail
            go_roundw
            case rel => exact ⟨k + 1, _, by omega, by omega, by go_num, by first | exact hF2 | exact hF2.drew⟩
            case measure => simp [intOf]; omega
        · obtain ⟨ao1, cap1, rfl, hcap1, hsl1⟩ := hF.done (by rw [HL1.out]; exact hk2) (by rw [HL1.out]; omega) hk1
          have htw := hF.two
          have hT : Two2 wr m ss0 ss1 2 := ⟨ao0, cap0, ao1, cap1, htw, hcap0, HSL0.out.2.keptBlk HSL0.out.1 (noInt2 _ _ _ _ _ _) hF.kept, hcap1, hsl1⟩
          have hold := hF.old
          have hbx := hF.box
          clear hF cM cMo
          go_wp2_with fail
          all_goals
            exact ⟨⟨2, 2, by simp, rfl, hold, hbx, hT⟩, by simp [intOf]⟩
    · obtain ⟨ao0, cap0, ao1, cap1, htw, hcap0, hs0, hcap1, hs1⟩ := htw
      have hA0 : wr.cell? ⟨m, 0, none⟩ = some (.slice ao0 (cut50 ss0).length cap0) := htw.cell 0
      have hA1 : wr.cell? ⟨m, 1, none⟩ = some (.slice ao1 (cut50 ss1).length cap1) := htw.cell 1
      have hb0 := cut50_le ss0
      have hb1 := cut50_le ss1
      have hn0 := cut50_len ss0
      have hn1 := cut50_len ss1
      have hml := Blk.lt htw
      clear htw hbx
      obtain ⟨z0, hz0⟩ := nm (cut50 ss0)
      obtain ⟨z1, hz1⟩ := nm (cut50 ss1)
      rw [← hz0.out] at hA0 hs0 hb0 hn0 hcap0
      rw [← hz1.out] at hA1 hs1 hb1 hn1 hcap1
      clear hz0 hz1 HAT0 HAT1 HL0 HL1
      have hask := ask_num a b hab hbb
      have hask2 := ask_nums z0 z1 hn0 hn1 hb0 hb1
      obtain ⟨x, hx⟩ := nm (ofL (Pl.num a))
      obtain ⟨y, hy⟩ := nm (ofL (Pl.num b))
      obtain ⟨s, hs⟩ := nm (ofL (numsL z0))
      obtain ⟨t, ht⟩ := nm (ofL (numsL z1))
      rw [← hx.out, ← hy.out] at hask
      rw [← hs.out, ← ht.out] at hask2
      have hxl : x.size ≤ 10 := by rw [hx.out, ofL_size]; exact Pl.num_length_le _ hab
      have hxl0 : 1 ≤ x.size := by rw [hx.out, ofL_size, Pl.num, List.length_append]; simp
      have hyl : y.size ≤ 10 := by rw [hy.out, ofL_size]; exact Pl.num_length_le _ hbb
      have hsl : s.size ≤ 210 := by
        have h1 := intsL_le z0 (fun z h => by have := hb0 z h; omega)
        have h2 := Pl.num_length_le z0.length (by omega)
        rw [hs.out, ofL_size, numsL, List.length_append]; omega
      have htl : t.size ≤ 210 := by
        have h1 := intsL_le z1 (fun z h => by have := hb1 z h; omega)
        have h2 := Pl.num_length_le z1.length (by omega)
        rw [ht.out, ofL_size, numsL, List.length_append]; omega
      have HS0 := Lib.hid hs0
      have HS1 := Lib.hid hs1
      have HB0 := Lib.hid hb0
      have HB1 := Lib.hid hb1
      clear hs0 hs1 hb0 hb1
      have hB : Below wr.heap.size wr wr := Below.refl _ _
      have cell : ∀ (w2 : World), Below wr.heap.size wr w2 → w2.cell? ⟨m, 0, none⟩ = some (.slice ao0 z0.length cap0) ∧ w2.cell? ⟨m, 1, none⟩ = some (.slice ao1 z1.length cap1) := fun _ h => ⟨(h.cell (p := ⟨m, 0, none⟩) hml).trans hA0, (h.cell (p := ⟨m, 1, none⟩) hml).trans hA1⟩
      have CELL := Lib.hid cell
      clear cell
      go_wp2_with fail
      refine (num_any a _ hab).mono ?_; rintro e w1 ⟨rfl, hB1⟩
      rw [← hx.out]
      replace hB := bNext hB hB1; clear hB1
      go_wp2_with fail
      refine (num_any b _ hbb).mono ?_; rintro e w2 ⟨rfl, hB1⟩
      rw [← hy.out]
      replace hB := bNext hB hB1; clear hB1
      obtain ⟨hA0, hA1⟩ := CELL.out _ hB
      go_wp2_with fail
      refine (nums_any ao0 _ cap0 z0 rfl (by omega) (fun z h => by have := HB0.out z h; omega) _ (HS0.out.below hB)).mono ?_; rintro e w3 ⟨rfl, hB1⟩
      rw [← hs.out]
      replace hB := bNext hB hB1; clear hB1
      obtain ⟨hA0, hA1⟩ := CELL.out _ hB
      go_wp2_with fail
      refine (nums_any ao1 _ cap1 z1 rfl (by omega) (fun z h => by have := HB1.out z h; omega) _ (HS1.out.below hB)).mono ?_; rintro e w4 ⟨rfl, hB1⟩
      rw [← ht.out]
      replace hB := bNext hB hB1; clear hB1
      obtain ⟨hA0, hA1⟩ := CELL.out _ hB
      obtain ⟨E, hE⟩ := nm (decide (a = b))
      obtain ⟨F, hF⟩ := nm (decide (z0 = z1))
      rw [← hE.out] at hask
      rw [← hF.out] at hask2
      go_upto_region 14 with fail
      go_cut [15] (fun s15 wx => s15 = .bool E ∧ w4 = wx)
      case first =>
        rcases hask with ⟨h1, h2⟩ | ⟨h1, rfl⟩
        all_goals
          go_wp2_with fail
          go_meet
          exact ⟨rfl, rfl⟩
      obtain ⟨rfl, rfl⟩ := hcut
      clear hask
      go_upto_region 15 with fail
      go_cut [16] (fun s16 wx => s16 = .bool F ∧ w4 = wx)
      case first =>
        rcases hask2 with ⟨h1, h2⟩ | ⟨h1, rfl⟩
        all_goals
          go_wp2_with fail
          go_meet
          exact ⟨rfl, rfl⟩
      obtain ⟨rfl, rfl⟩ := hcut
      clear hask2
      go_wp2_with fail
      refine (same_any ao0 ao1 cap0 cap1 z0 z1 _ (by omega) (HS0.out.below hB) (HS1.out.below hB)).mono ?_; rintro e w5 ⟨rfl, q5, rfl⟩
      rw [← hF.out]
      have hEE : ((a : Int) == (b : Int)) = E := by rw [hE.out, Bool.eq_iff_iff, beq_iff_eq, decide_eq_true_iff]; omega
      have hd : decide ((x.size : Int) ≤ 10) = true := decide_eq_true (by omega)
      have hlast : Below w.heap.size w (w4.drewN q5) := below_drewN (hold.trans (hB.mono hold.size)) q5
      go_wp2_with fail
      go_ret
      exact ⟨rfl, hlast⟩
theorem mintOne_walkI (x0 x1 : Int) (k0 : (Lit.int .u64 x0).wf = true) (k1 : (Lit.int .u64 x1).wf = true) (a0 a1 : Option Addr) (l0 l1 c0 c1 : Nat) (ss0 ss1 : List Int) (hl0 : ss0.length = l0) (hl1 : ss1.length = l1) (w : World)
    (hat0 : SlAt w a0 (ss0.map (Value.int .i64))) (hat1 : SlAt w a1 (ss1.map (Value.int .i64))) :
    Calls Try.prog 4 #[.int .u64 x0, .int .u64 x1, .agg #[.slice a0 l0 c0, .slice a1 l1 c1]] w fun e w' => e = .returned (.bool true) ∧ Below w.heap.size w w' := by
  have h0 := Go.bounds_u64 k0
  have h1 := Go.bounds_u64 k1
  obtain ⟨n, rfl⟩ : ∃ n : Nat, x0 = n := ⟨x0.toNat, by omega⟩
  obtain ⟨m, rfl⟩ : ∃ n : Nat, x1 = n := ⟨x1.toNat, by omega⟩
  exact mintOne_walk n m (by omega) (by omega) a0 a1 l0 l1 c0 c1 ss0 ss1 hl0 hl1 w hat0 hat1

namespace LMintOne
open Go.ChangeShapes Go.WideShapes Go.ChangeAt
open Go.ChangeMaps (open_string shut_string)

theorem contract (H : Type) (enc : TypeId × Value → H) (W : World) (base : Nat) (args : Array Value) (ds gs : List (DataW H)) (before : List MemPlace)
    (hval : ∀ (j : Nat) t v, Try.f4.params[j]? = some t → args[j]? = some v → Value.okWide Try.prog W .any base t v)
    (hW : DataW.Whole enc Try.prog Try.f4.params.toList Rows.mintOneSpec.vars false W args.toList ds gs before)
    (_hsz : (DataW.weightsEach Try.prog (Try.f4.params.toList ++ (OpenSpec.ofChange Rows.mintOneSpec).bare.plain.varTypes Try.prog) (ds ++ gs)).all (fun x => decide (x ≤ reachBytes)) = true) :
    Calls Try.prog 4 args W fun e W' => ∃ v, e = .returned v ∧ Rows.mintOneSpec.post enc Try.prog Try.f4 false true false false W args v W' := by
  have hW' := hW
  obtain ⟨p, q, hA0, hV, rfl, hfz, hnd⟩ := hW
  have hA : DataW.TrodAll enc Try.prog W 0 (fun _ => true) true Try.f4.params.toList args.toList ds p := hA0
  rw [Try.params4] at hA hval
  obtain ⟨v0, vs0, d0, ds0, p0, q0, hargs, rfl, rfl, h0, r0⟩ := trodAll_cons hA
  obtain ⟨v1, vs1, d1, ds1, p1, q1, rfl, rfl, rfl, h1, r1⟩ := trodAll_cons r0
  obtain ⟨v2, vs2, d2, ds2, p2, q2, rfl, rfl, rfl, h2, r2⟩ := trodAll_cons r1
  obtain ⟨rfl, rfl, rfl⟩ := trodAll_nil r2
  obtain rfl : args = #[v0, v1, v2] := by cases args; simp_all
  obtain ⟨rfl, rfl⟩ := trodVars_none hV
  obtain ⟨x0, rfl, rfl, rfl, k0⟩ := open_int Try.underlying22 (hval 0 22 v0 rfl rfl) h0
  obtain ⟨x1, rfl, rfl, rfl, k1⟩ := open_int Try.underlying22 (hval 1 22 v1 rfl rfl) h1
  obtain ⟨a0, a1, l0, l1, c0, c1, ss0, ss1, rfl, hl0, hl1, _, _, hat0, hat1⟩ := open_pair Try.underlying27 Try.underlying26 Try.underlying3 (show Try.prog.cellsOf 27 = 2 by kernel_rfl) (show Try.prog.cellsOf 26 = 1 by kernel_rfl) (show Try.prog.cellsOf 3 = 1 by kernel_rfl) (hval 2 27 v2 rfl rfl) h2
  clear hA0
  refine (mintOne_walkI x0 x1 k0 k1 a0 a1 l0 l1 c0 c1 ss0 ss1 hl0 hl1 W hat0 hat1).mono fun e W' ⟨he, hb⟩ => ?_
  subst he
  exact ⟨_, rfl, law_post laidOut Try.underlying4 rfl (by kernel_rfl) rfl rfl rfl rfl hW' hb⟩

theorem reads (os : Os) {H : Type} (enc : TypeId × Value → H) : ∃ places, DataW.whole enc Try.prog ((World.holding Try.prog os ⟨#[], #[], []⟩).forCall (fun _ _ => 0) ⟨#[], #[.int .u64 0, .int .u64 0, .agg #[.slice none 0 0, .slice none 0 0]], []⟩).memory Try.f4.params.toList Rows.mintOneSpec.vars false (#[.int .u64 0, .int .u64 0, .agg #[.slice none 0 0, .slice none 0 0]] : Array Value).toList 8 = some ([.lit (.int .u64 0), .lit (.int .u64 0), .agg [.nil, .nil]], [], places) :=
  ⟨[], by kernel_rfl⟩
theorem laid_met (os : Os) : laidMet Try.prog Rows.mintOneRow.laid ((World.holding Try.prog os ⟨#[], #[], []⟩).forCall (fun _ _ => 0) ⟨#[], #[.int .u64 0, .int .u64 0, .agg #[.slice none 0 0, .slice none 0 0]], []⟩).memory :=
  laidMet_of_run' 8 (by kernel_rfl) (by kernel_rfl)

set_option maxRecDepth 100000 in
theorem lifted (os : Os) (started : os.Started) (H : Type) (enc : TypeId × Value → H) (F : Stop.Interp) :
    ReturnsInHanded {} Try.checked os 4 .any ((OpenSpec.ofChange Rows.mintOneSpec).preRow enc Try.prog Try.f4 Rows.mintOneRow.domain false Rows.mintOneRow.laid) (((OpenSpec.ofChange Rows.mintOneSpec).at F).post enc Try.prog Try.f4 false true false false) := by
  obtain ⟨places, hx⟩ := reads os enc
  refine returnsInHanded_of_row (C := Try.checked) (s := OpenSpec.ofChange Rows.mintOneSpec) own started (by kernel_rfl) Try.func4
    (witness_row_at (enc := enc) (C := Try.checked) false (World.holding Try.prog os ⟨#[], #[], []⟩) #[.int .u64 0, .int .u64 0, .agg #[.slice none 0 0, .slice none 0 0]] rfl (by kernel_rfl) (by kernel_rfl) (by kernel_rfl)
      (OpenSpec.preRow_of_cond 8 hx (by kernel_rfl) (fun k hk => by cases hk) (by kernel_rfl) (laid_met os))) ?_
  intro W base args ds gs before hval hW _ _ hsz hL _ _
  exact contract H enc W base args ds gs before hval hW hsz

theorem said : Rows.MintOneSaid :=
  OpenClaim.holds_of_cond 4 Try.f4 rfl rfl rfl rfl rfl rfl rfl ⟨rfl, rfl, rfl, rfl, rfl⟩ rfl rfl rfl rfl rfl (by kernel_rfl) Try.func4 (by kernel_rfl)
    (of_decide_eq_true (by kernel_rfl)) (by unfold Func.isWrapper; first | (rw [if_pos (by decide +kernel)]; kernel_rfl) | (rw [if_neg (by decide +kernel)]; exact ⟨rfl, rfl⟩))
    (fun os started H enc _ F => by rw [OpenClaim.pre_eq_preRow]; exact lifted os started H enc F)
end LMintOne
end Go.Proofs.Ytnahdhhojjicjaa
