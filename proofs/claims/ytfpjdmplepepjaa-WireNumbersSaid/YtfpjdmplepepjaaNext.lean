/- The reader's Nums: its closure, which appends to a list that it holds; the loop. -/
import Derived.Test.YtfpjdmplepepjaaReaderT
import Derived.Test.YtfpjdmplepepjaaNumsT
import Derived.Deep.AppendLies
import Derived.Deep.RegionHeld3
import Derived.Shelf.RegionOpenPlain
import Derived.OwnWalk
import Derived.Deep.RegionLaw
namespace Go.Proofs.Ytfpjdmplepepjaa
open Go.RowKit

/-- Of what lay below base only the blocks b and o may have turned. -/
structure Past (base b o : Nat) (w w' : World) : Prop where
  os : w'.os = w.os
  tape : w'.tape = w.tape
  output : w'.output = w.output
  size : w.heap.size ≤ w'.heap.size
  block : ∀ k, k < base → k ≠ b → k ≠ o → w'.heap[k]? = w.heap[k]?
theorem Past.refl (base b o : Nat) (w : World) : Past base b o w w := ⟨rfl, rfl, rfl, Nat.le_refl _, fun _ _ _ _ => rfl⟩
theorem Past.trans {base b o : Nat} {w v u : World} (h : Past base b o w v) (k : Past base b o v u) : Past base b o w u :=
  ⟨k.os.trans h.os, k.tape.trans h.tape, k.output.trans h.output, Nat.le_trans h.size k.size, fun i hi hb ho => (k.block i hi hb ho).trans (h.block i hi hb ho)⟩
theorem Kept.past {b : Nat} {w v : World} (h : Kept b w v) {base o : Nat} (hb : base ≤ w.heap.size) : Past base b o w v :=
  ⟨h.os, h.tape, h.output, h.size, fun k hk hne _ => h.block k (by omega) hne⟩
theorem Past.blk {base b o : Nat} {w v : World} {c : Array Value} {t : TypeId} (h : Past base b o w v) {k : Nat} (hk : Blk w k c t) (hl : k < base) (h1 : k ≠ b) (h2 : k ≠ o) : Blk v k c t := (h.block k hl h1 h2).trans hk
theorem grown_blk {w w' : World} {row : Option Nat} (h : w.grownBy w' row) {k : Nat} {c : Array Value} {t : TypeId} (hk : Blk w k c t) (hne : some k ≠ row) : Blk w' k c t := (h.block k hk.lt hne).trans hk

theorem infoInt : (Try.prog.info? 3).map (fun i => (i.zero, i.size, i.bytes)) = some (some (.int .i64 0), 1, 8) := by kernel_rfl

/-- What the closure of Nums holds: the list v (of zs), the reader, the number. -/
structure Holds (base b O R M : Nat) (r : Rd) (most : Int) (v : Value) (zs : List Int) (w : World) : Prop where
  lb : b < base
  lO : O < base
  lR : R < base
  lM : M < base
  bO : b ≠ O
  bR : b ≠ R
  bM : b ≠ M
  OR : O ≠ R
  OM : O ≠ M
  size : base ≤ w.heap.size
  rd : IsRd w b r
  out : Blk w O #[v] 60
  box : Blk w R #[.pointer (some ⟨b, 0, none⟩)] 71
  num : Blk w M #[.int .i64 most] 3
  own : w.ownsRow base 3 1 v zs.length (zs.map (Value.int .i64))

theorem rint3_any {base b O R M : Nat} {r : Rd} {most : Int} {v : Value} {zs : List Int} (w w0 : World) (h : Holds base b O R M r most v zs w) (hd : w0 = w.drew) (hs : r.left.size ≤ 4611686018427387904) (hm : most ≤ 9223372036854775807) :
    Calls Try.prog 77 #[.pointer (some ⟨b, 0, none⟩), .int .i64 most] w0 fun e w' => e = .returned (.int .i64 ((r.int most).2 : Nat)) ∧ (Holds base b O R M (r.int most).1 most v zs w' ∧ Kept b w w') ∧
      w'.cell? ⟨O, 0, none⟩ = some v ∧ w'.cell? ⟨R, 0, none⟩ = some (.pointer (some ⟨b, 0, none⟩)) ∧ w'.cell? ⟨M, 0, none⟩ = some (.int .i64 most) := by
  subst hd
  refine (rint_any b r most _ h.rd.drew hs hm).mono ?_
  rintro e w' ⟨rfl, h1, hk⟩
  have hk2 : Kept b w w' := (Kept.refl b w).drew.trans hk
  have o1 := hk2.blk h.out h.bO.symm
  have o2 := hk2.blk h.box h.bR.symm
  have o3 := hk2.blk h.num h.bM.symm
  refine ⟨rfl, ⟨⟨h.lb, h.lO, h.lR, h.lM, h.bO, h.bR, h.bM, h.OR, h.OM, Nat.le_trans h.size hk2.size, h1, o1, o2, o3, ?_⟩, hk2⟩, o1.cell 0, o2.cell 0, o3.cell 0⟩
  have hg : w.grownBy w' (some b) := ⟨hk2.os, hk2.tape, hk2.output, hk2.size, fun k hk' hne => hk2.block k hk' (fun e => hne (by rw [e]))⟩
  refine h.own.kept hg ?_
  cases hv : v.ownBlock with
  | none => exact .inl rfl
  | some g =>
    right
    intro e
    have := (h.own.lt g hv).1
    have := h.lb
    cases e
    omega

theorem Holds.far {base b O R M : Nat} {r : Rd} {most : Int} {v : Value} {zs : List Int} {w w2 : World} {o : Obj} (h : Holds base b O R M r most v zs w) (hg : (w.alloc o).grownBy w2 v.ownBlock) :
    IsRd w2 b r ∧ Blk w2 O #[v] 60 ∧ Blk w2 R #[.pointer (some ⟨b, 0, none⟩)] 71 ∧ Blk w2 M #[.int .i64 most] 3 := by
  have hne : ∀ k, k < base → some k ≠ v.ownBlock := by
    intro k hk e
    have := (h.own.lt k e.symm).1
    omega
  exact ⟨grown_blk hg (h.rd.alloc o) (hne _ h.lb), grown_blk hg (h.out.alloc o) (hne _ h.lO), grown_blk hg (h.box.alloc o) (hne _ h.lR), grown_blk hg (h.num.alloc o) (hne _ h.lM)⟩

/-- Behind the append and its store. -/
theorem Holds.push {base b O R M : Nat} {r : Rd} {most : Int} {v : Value} {zs : List Int} {w w2 : World} {o : Obj} {g cap : Nat} {z : Int} (h : Holds base b O R M r most v zs w) (hg : (w.alloc o).grownBy w2 v.ownBlock)
    (hown : w2.ownsRow base 3 1 (.slice (some ⟨g, 0, none⟩) (zs.length + 1) cap) (zs.length + 1) (zs.map (Value.int .i64) ++ [.int .i64 z])) :
    Holds base b O R M r most (.slice (some ⟨g, 0, none⟩) (zs.length + 1) cap) (zs ++ [z]) (w2.setCell ⟨O, 0, none⟩ (.slice (some ⟨g, 0, none⟩) (zs.length + 1) cap)) ∧
      Past base b O w (w2.setCell ⟨O, 0, none⟩ (.slice (some ⟨g, 0, none⟩) (zs.length + 1) cap)) := by
  obtain ⟨d0, d1, d2, d3⟩ := h.far hg
  have hsz : w.heap.size ≤ w2.heap.size := Nat.le_trans (by simp) hg.size
  have hge : base ≤ g := (hown.lt g rfl).1
  have hg2 : w2.grownBy (w2.setCell ⟨O, 0, none⟩ (.slice (some ⟨g, 0, none⟩) (zs.length + 1) cap)) (some O) :=
    ⟨rfl, rfl, rfl, by simp [World.setCell], fun k _ hk => Below.heap_setCell _ _ _ _ (fun e => hk (by rw [e]))⟩
  refine ⟨⟨h.lb, h.lO, h.lR, h.lM, h.bO, h.bR, h.bM, h.OR, h.OM, ?_, Blk.setOther d0 h.bO _, Blk.set d1 0 _, Blk.setOther d2 h.OR.symm _, Blk.setOther d3 h.OM.symm _, ?_⟩, ?_⟩
  · have := h.size
    have := hg2.size
    omega
  · have := hown.kept hg2 (.inr (by simp only [Value.ownBlock]; intro e; cases e; have := h.lO; omega))
    simpa using this
  · refine ⟨hg.os, hg.tape, hg.output, Nat.le_trans hsz hg2.size, fun k hk h1 h2 => ?_⟩
    rw [hg2.block k (by have := h.size; omega) (by simp [h2]), hg.block k (by have := h.size; simp; omega) (by intro e; have := (h.own.lt k e.symm).1; omega), Below.heap_alloc _ _ _ (by have := h.size; omega)]

set_option maxRecDepth 100000 in
set_option maxHeartbeats 4000000 in
theorem next_any {base b O R M : Nat} {r : Rd} {most : Int} {v : Value} {zs : List Int} (w : World) (h : Holds base b O R M r most v zs w) (hs : r.left.size ≤ 4611686018427387904) (hm : most ≤ 9223372036854775807) (hz : zs.length ≤ 1000000) :
    Calls Try.prog 76 #[.pointer (some ⟨O, 0, none⟩), .pointer (some ⟨R, 0, none⟩), .pointer (some ⟨M, 0, none⟩)] w fun e w' =>
      e = .returned (.bool (!(r.int most).1.torn)) ∧ ∃ v', Holds base b O R M (r.int most).1 most v' (zs ++ [((r.int most).2 : Int)]) w' ∧ Past base b O w w' := by
  have c1 : w.cell? ⟨O, 0, none⟩ = some v := h.out.cell 0
  have c2 : w.cell? ⟨R, 0, none⟩ = some (.pointer (some ⟨b, 0, none⟩)) := h.box.cell 0
  have c3 : w.cell? ⟨M, 0, none⟩ = some (.int .i64 most) := h.num.cell 0
  obtain ⟨z, hzz⟩ := nm (r.int most).2
  obtain ⟨q, hq⟩ := nm (r.int most).1
  rw [← hzz.out, ← hq.out]
  have HR : Hid (∀ w0 : World, w0 = w.drew → Calls Try.prog 77 #[.pointer (some ⟨b, 0, none⟩), .int .i64 most] w0 fun e w' => e = .returned (.int .i64 (z : Nat)) ∧ (Holds base b O R M q most v zs w' ∧ Kept b w w') ∧
      w'.cell? ⟨O, 0, none⟩ = some v ∧ w'.cell? ⟨R, 0, none⟩ = some (.pointer (some ⟨b, 0, none⟩)) ∧ w'.cell? ⟨M, 0, none⟩ = some (.int .i64 most)) := by
    show ∀ _, _
    rw [hzz.out, hq.out]
    exact fun w0 hd => rint3_any w w0 h hd hs hm
  obtain ⟨i0, hi, hz0, hz1, hz2⟩ := info_parts infoInt
  go_enter Try.func76, Try.ntmps76
  go_wp2
  go_region_law
    (first
      | (go_simp; go_at_call 77; refine (HR.out _ ?_).mono ?_; rfl; rintro e w1 ⟨rfl, h1, g1, g2, g3⟩; have g4 : ∀ o, (w1.alloc o).cell? ⟨O, 0, none⟩ = some v := fun o => (h1.1.out.alloc o).cell 0; simp only [])
      | (refine step_append_lies _ (by rfl) _ _ 60 (by rfl) base 3 i0 (.int .i64 0) 1 8 Try.underlying60 hi hz0 hz1 hz2 rfl (by decide) v zs.length (zs.map (Value.int .i64)) (by rfl) (h1.1.own.alloc _) ⟨w1.heap.size, 0, none⟩ 1 1 [.int .i64 z] (by rfl) rfl
          (World.news_of_block (heap_alloc_new w1 _)) (by simp [Value.oneCell']) (by decide) (by unfold maxLen; omega) (by omega) (Nat.le_trans h1.1.size (by simp)) _ rfl ?_
         intro g cap w2 hown hgrow hat hlt
         obtain ⟨d0, d1, d2, d3⟩ := h1.1.far hgrow
         have e1 : w2.cell? ⟨O, 0, none⟩ = some v := d1.cell 0
         have e2 : w2.cell? ⟨R, 0, none⟩ = some (.pointer (some ⟨b, 0, none⟩)) := d2.cell 0
         have e3 : w2.cell? ⟨M, 0, none⟩ = some (.int .i64 most) := d3.cell 0
         have e4 : w2.frozen? ⟨O, 0, none⟩ = false := d1.free 0))
  all_goals
    obtain ⟨hH, hP⟩ := h1.1.push hgrow hown
    have hbx := hH.box.cell 0
    go_wp2_with fail
    refine (fine_any b _ _ hH.rd).mono ?_; rintro e w4 ⟨rfl, rfl⟩
    go_wp2_with fail
    go_ret
    exact ⟨rfl, _, hH, (h1.2.past h.size).trans hP⟩

end Go.Proofs.Ytfpjdmplepepjaa
