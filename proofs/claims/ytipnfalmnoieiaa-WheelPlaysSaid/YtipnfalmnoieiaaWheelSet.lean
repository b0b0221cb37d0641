/- The wheel as a row that rises: Set. -/
import Derived.Test.YtipnfalmnoieiaaWheelStop
import Derived.Deep.AppendLies
import Derived.Maps.Own
namespace Go.Proofs.Ytipnfalmnoieiaa
open Go.RowKit Go.Shelf Go.Lib Go.Sort Go.Maps

/-- What a wheel's cells tell. -/
theorem WL.view {w : World} {p : Nat} {F : Nat → Prop} {L : List (Int × Int)} {clk : Int} (h : WL w p F L clk) (id : Int) (hwf : (Lit.int .i64 id).wf = true) :
    ∃ (ao : Option Addr) (cap : Nat) (mv : Option Nat) (c : Int), w.cell? ⟨p, 0, none⟩ = some (.slice ao L.length cap) ∧ w.cell? ⟨p, 1, none⟩ = some (.map mv) ∧ w.cell? ⟨p, 2, none⟩ = some (.int .i64 clk) ∧
      (Instr.lookup 50 (.map mv) (.int .i64 id) true).run Try.prog w = .ok (.tuple #[.int .i64 c, .bool (decide (id ∈ idsL L))]) w := by
  rcases h.mem with ⟨rfl, h2, h3⟩ | ⟨g, cap, m, A, D, h1, h2, h3, h4, h5⟩
  · refine ⟨none, 0, none, 0, h2.cell 0, h2.cell 1, h2.cell 2, ?_⟩
    rw [show decide (id ∈ idsL []) = false by simp [idsL]]
    exact look_nil_is id hwf w
  · have hpi := (ids_perm_L h4).mem_iff (a := id)
    rcases look_some_is id hwf w h1.map h3 with ⟨hni, c, hl⟩ | ⟨i, hi, he, hl⟩
    · refine ⟨_, cap, some m, c, h1.blk.cell 0, h1.blk.cell 1, h1.blk.cell 2, ?_⟩
      rw [decide_eq_false fun e => hni (hpi.2 e)]; exact hl
    · refine ⟨_, cap, some m, (i : Int), h1.blk.cell 0, h1.blk.cell 1, h1.blk.cell 2, ?_⟩
      rw [decide_eq_true (hpi.1 (mem_ids.2 ⟨i, hi, he⟩))]; exact hl

set_option maxRecDepth 100000 in
set_option maxHeartbeats 4000000 in
theorem set_time (p : Nat) (F : Nat → Prop) (L : List (Int × Int)) (clk a id : Int) (hwf : (Lit.int .i64 id).wf = true) (ha : a < 0 ∨ 1125899906842624 < a) (w : World) (h : WL w p F L clk) :
    Calls Try.prog 11 #[.pointer (some ⟨p, 0, none⟩), .int .i64 a, .int .i64 id] w fun e w' => e = .returned (.int .i64 18) ∧ w = w' := by
  obtain ⟨ao, cap, mv, c, c0, c1, c2, hl⟩ := h.view id hwf
  clear h
  rcases ha with ha | ha
  · have hd : decide (a < 0) = true := decide_eq_true ha
    go_enter Try.func11, Try.ntmps11
    go_wp2_with fail
    go_ret
    exact ⟨rfl, rfl⟩
  · have hd : decide (a < 0) = false := decide_eq_false (by omega)
    have hd2 : decide (1125899906842624 < a) = true := decide_eq_true ha
    go_enter Try.func11, Try.ntmps11
    go_wp2_with fail
    go_ret
    exact ⟨rfl, rfl⟩

set_option maxRecDepth 100000 in
set_option maxHeartbeats 4000000 in
theorem set_full (p : Nat) (F : Nat → Prop) (L : List (Int × Int)) (clk a id : Int) (hwf : (Lit.int .i64 id).wf = true) (ha0 : 0 ≤ a) (ha1 : a ≤ 1125899906842624) (hid : id ∉ idsL L) (hfull : L.length = 4096) (w : World) (h : WL w p F L clk) :
    Calls Try.prog 11 #[.pointer (some ⟨p, 0, none⟩), .int .i64 a, .int .i64 id] w fun e w' => e = .returned (.int .i64 15) ∧ w = w' := by
  obtain ⟨ao, cap, mv, c, c0, c1, c2, hl⟩ := h.view id hwf
  rw [decide_eq_false hid] at hl
  rw [hfull] at c0
  have hd : decide (a < 0) = false := decide_eq_false (by omega)
  have hd2 : decide (1125899906842624 < a) = false := decide_eq_false (by omega)
  clear h hfull hid
  go_enter Try.func11, Try.ntmps11
  go_wp2_with fail
  go_ret
  exact ⟨rfl, rfl⟩

/-- The row behind an append, the wheel's cell written. -/
theorem set_row {w5 : World} {g cap2 n : Nat} {A : PA} {x : Int × Int} (h : w5.ownsRow 0 28 2 (.slice (some ⟨g, 0, none⟩) (n + 1) cap2) (n + 1) (flatD A.toList ++ [.int .i64 x.1, .int .i64 x.2])) (hA : A.size = n) : RowG w5 g cap2 (A.push x) := by
  have h2 : OwnP w5 0 28 (.slice (some ⟨g, 0, none⟩) (n + 1) cap2) (A.toList ++ [x]) := by
    show w5.ownsRow _ _ _ _ _ _
    rw [flatD_append, List.length_append]
    have e : A.toList.length + [x].length = n + 1 := by
      rw [List.length_singleton]
      have : A.toList.length = A.size := rfl
      omega
    rw [e]
    exact h
  have := (RowG.ofOwn h2).1
  have e2 : (A.toList ++ [x]).toArray = A.push x := by
    apply Array.toList_inj.1
    rw [Array.toList_push]
  rwa [e2] at this
theorem up_end {w w' : World} {p g cap m n : Nat} {clk a id : Int} {A : PA} {L L1 : List (Int × Int)} {S : Nat → Prop} (h : UpEnd w w' p g cap m n clk (A.push (a, id))) (hp : A.toList.Perm L1) (hs : L = insD L1 (a, id)) (hn : (a, id) ∉ L1) (hid : id ∉ idsL L1) (ha : Asc L1) (hnd : (idsL L1).Nodup) (hw : WfL L1) (hwf : (Lit.int .i64 id).wf = true) (hl : L1.length + 1 = n) (h4 : n ≤ 4096)
    (hS : S = PGM p g m) : WL w' p S L clk ∧ KeptS S w w' := by
  subst hS
  obtain ⟨A', D', h1, h2, h3, h5, h6⟩ := h
  have hpL : L.Perm ((a, id) :: L1) := by rw [hs]; exact insD_perm hn
  have hpA : A'.toList.Perm L := by
    refine h5.trans ?_
    rw [Array.toList_push]
    exact (List.perm_append_singleton _ _).trans ((hp.cons _).trans hpL.symm)
  have hlen : L.length = n := by rw [hpL.length_eq]; simpa using hl
  refine ⟨⟨by rw [hs]; exact asc_insD ha _, ?_, fun x hx => ?_, by omega, .inr ⟨g, cap, m, A', D', by rw [hlen]; exact h1, h2, h3, hpA, fun _ => Iff.rfl⟩⟩, h6.mono fun k _ e => .inr e⟩
  · have h9 : (idsL L).Perm (id :: idsL L1) := hpL.map (f := fun y : Int × Int => y.2)
    exact h9.nodup_iff.2 (List.nodup_cons.2 ⟨hid, hnd⟩)
  · rcases List.mem_cons.1 (hpL.mem_iff.1 hx) with rfl | h7
    · exact hwf
    · exact hw x h7

theorem KeptS.transOn {F S : Nat → Prop} {w v u : World} (h : KeptS F w v) (k : KeptS S v u) (hs : ∀ b, b < w.heap.size → S b → F b) : KeptS F w u :=
  ⟨k.os.trans h.os, k.tape.trans h.tape, k.output.trans h.output, Nat.le_trans h.size k.size, fun i hi hb => (k.block i (Nat.lt_of_lt_of_le hi h.size) (fun e => hb (hs i hi e))).trans (h.block i hi hb)⟩
theorem kept_none {w w' : World} {o : Obj} {n c : Nat} (h : (w.alloc o).grownBy w' (Value.slice none n c).ownBlock) : KeptS (fun _ => False) w w' :=
  KeptS.grown ((KeptS.refl _ w).alloc o) h fun b e _ => by simp [Value.ownBlock] at e
theorem kept_some {w w' : World} {o : Obj} {g n c : Nat} (h : (w.alloc o).grownBy w' (Value.slice (some ⟨g, 0, none⟩) n c).ownBlock) : KeptS (fun k => k = g) w w' :=
  KeptS.grown ((KeptS.refl _ w).alloc o) h fun b e _ => by simp [Value.ownBlock] at e; exact e.symm
/-- One more in the wheel. -/
def SetEnd (w w' : World) (p : Nat) (F : Nat → Prop) (L : List (Int × Int)) (clk : Int) : Prop := ∃ F', WL w' p F' L clk ∧ KeptS F w w' ∧ ∀ k, F' k → F k ∨ w.heap.size ≤ k

set_option maxRecDepth 100000 in
set_option maxHeartbeats 4000000 in
theorem set_ok (p : Nat) (F : Nat → Prop) (L : List (Int × Int)) (clk a id : Int) (hwf : (Lit.int .i64 id).wf = true) (ha0 : 0 ≤ a) (ha1 : a ≤ 1125899906842624) (hroom : id ∈ idsL L ∨ L.length < 4096) (w : World) (h : WL w p F L clk) :
    Calls Try.prog 11 #[.pointer (some ⟨p, 0, none⟩), .int .i64 a, .int .i64 id] w fun e w' => e = .returned (.int .i64 0) ∧ SetEnd w w' p F (setL L a id) clk := by
  obtain ⟨ao, cap, mv, c, c0, c1, c2, hl⟩ := h.view id hwf
  have hd : decide (a < 0) = false := decide_eq_false (by omega)
  have hd2 : decide (1125899906842624 < a) = false := decide_eq_false (by omega)
  have hlen : (outL L id).length < 4096 := by
    rcases hroom with h1 | h1
    · have := out_length h.nodup h1; have := h.len; omega
    · have := out_le L id; omega
  have hS := stop_any p F L clk id hwf w h
  obtain ⟨L1, hL1⟩ := nm (outL L id)
  rw [← hL1.out] at hlen hS
  obtain ⟨n, hn⟩ := nm L.length
  rw [← hn.out] at c0 hroom
  have hset : Hid (setL L a id = insD L1 (a, id) ∧ (a, id) ∉ L1 ∧ id ∉ idsL L1 ∧ (setL L a id).Perm ((a, id) :: L1)) := by
    show _ ∧ _
    rw [hL1.out]
    exact ⟨rfl, not_mem_out L a id, not_out L id, set_perm L a id⟩
  have HW0 := Lib.hid h
  have HS := Lib.hid hS
  obtain ⟨B, hB⟩ := nm (decide (id ∈ idsL L))
  rw [← hB.out] at hl
  have hguard : Hid (B = false → n < 4096) := by
    intro e
    rcases hroom with h1 | h1
    · rw [hB.out, decide_eq_true h1] at e; cases e
    · exact h1
  clear h hS hroom
  obtain ⟨i0, hi, hz0, hz1, hz2⟩ := info_parts infoD
  have q50 : ∀ (w : World) (r : Option Nat), (binOp .eql 50 (.map r) (.map none)).run Try.prog w = .ok (.bool r.isNone) w := fun w r => run_eql_map_nil w _ _ _ r Try.underlying50
  have hmm := @run_makeMap Try.prog
  go_enter Try.func11, Try.ntmps11
  go_upto_block 0 with fail
  go_cut [] (fun wx => wx = w)
  case first =>
    clear hl
    cases B
    · have h4 : decide (4096 ≤ n) = false := decide_eq_false (by have := hguard.out rfl; omega)
      have h4i : decide ((4096 : Int) ≤ (n : Int)) = false := decide_eq_false (by have := hguard.out rfl; omega)
      go_wp2_with fail
      go_meet
      exact rfl
    · go_wp2_with fail
      go_meet
      exact rfl
  obtain rfl := hcut.symm
  go_wp2_with fail
  refine HS.out.mono ?_; rintro e w1 ⟨rfl, h1, k1⟩
  clear c0 c1 c2 hd hd2
  have HW1 := Lib.hid h1
  have HK1 := Lib.hid k1
  clear k1
  rcases h1.mem with ⟨e1, b1, hF⟩ | ⟨g, cap1, m, A, D, q1, q2, q3, q4, hF⟩
  · have c0 : w1.cell? ⟨p, 0, none⟩ = some (.slice none 0 0) := b1.cell 0
    have c1 : w1.cell? ⟨p, 1, none⟩ = some (.map none) := b1.cell 1
    have f1 : w1.frozen? ⟨p, 1, none⟩ = false := b1.free 1
    have hpl := b1.lt
    have HB1 := Lib.hid b1
    have HE1 := Lib.hid e1
    have HWA := Lib.hid h1
    have z1 := World.new_ne w1 _ c1
    clear h1 b1 e1
    go_upto_region 11 with fail
    clear z1
    have K12 : KeptS F w1 ((w1.setCell ⟨p, 1, none⟩ (.map (some w1.heap.size))).alloc (.map #[] 0)) := ((KeptS.refl F w1).set ⟨p, 1, none⟩ ((hF p).2 rfl) _).alloc _
    have HP2 : Hid (Blk ((w1.setCell ⟨p, 1, none⟩ (.map (some w1.heap.size))).alloc (.map #[] 0)) p #[.slice none 0 0, .map (some w1.heap.size), .int .i64 clk] 52) := Blk.alloc (HB1.out.set 1 _) _
    have HM2 : Hid (IMap ((w1.setCell ⟨p, 1, none⟩ (.map (some w1.heap.size))).alloc (.map #[] 0)) w1.heap.size (.map [])) := by
      have h0 : IMap ((w1.setCell ⟨p, 1, none⟩ (.map (some w1.heap.size))).alloc (.map #[] 0)) (w1.setCell ⟨p, 1, none⟩ (.map (some w1.heap.size))).heap.size (.map []) := World.ownsMap_made _ _ _ _
      rwa [show (w1.setCell ⟨p, 1, none⟩ (.map (some w1.heap.size))).heap.size = w1.heap.size from by simp [World.setCell]] at h0
    obtain ⟨mb, hmb⟩ := nm w1.heap.size
    obtain ⟨w2, hw2⟩ := nm ((w1.setCell ⟨p, 1, none⟩ (.map (some w1.heap.size))).alloc (.map #[] 0))
    rw [← hw2.out, ← hmb.out] at HP2 HM2
    rw [← hw2.out] at K12
    rw [← hmb.out] at hpl
    rw [← hw2.out, ← hmb.out]
    have hmw : Hid (w.heap.size ≤ mb) := by show _ ≤ _; rw [hmb.out]; exact HK1.out.size
    have HK2 : Hid (KeptS F w w2) := HK1.out.trans K12
    have d0 : w2.cell? ⟨p, 0, none⟩ = some (.slice none 0 0) := HP2.out.cell 0
    have hws : p < w2.heap.size := HP2.out.lt
    have hown : OwnP (w2.alloc (.cells #[.int .i64 a, .int .i64 id] 28)) 0 28 (.slice none 0 0) [] := OwnP.nil _ _ _
    clear c0 c1 f1 K12 hw2 hmm
    go_upto_region 12 with (at_builtin; refine wpList_append_lies _ rfl _ _ 34 rfl 0 28 i0 (.agg #[.int .i64 0, .int .i64 0]) 2 16 Try.underlying34 hi hz0 hz1 hz2 rfl (by decide) (.slice none 0 0) 0 _ rfl hown ⟨w2.heap.size, 0, none⟩ 1 1 [.int .i64 a, .int .i64 id] rfl rfl (World.news_of_block (heap_alloc_new w2 _)) (by simp [Value.oneCell']) (by decide) (by unfold maxLen; omega) (by omega) (Nat.zero_le _) (w2.heap.size + 1) (by simp) ?_; intro g cap2 w3 hown3 hgrow hat hlt3; have K3 : KeptS (fun _ => False) w2 w3 := kept_none hgrow; have B3 := K3.blk HP2.out not_false; have d3 : w3.cell? ⟨p, 0, none⟩ = some (.slice none 0 0) := B3.cell 0; have f3 : w3.frozen? ⟨p, 0, none⟩ = false := B3.free 0)
    have R3 : RowG w3 g cap2 (Array.push #[] (a, id)) := set_row (A := #[]) (x := (a, id)) hown3 rfl
    have hg : g = w2.heap.size + 1 := by
      rcases hat with e | e
      · cases e
      · exact e
    have M3 := HM2.out.kept (K3.block mb HM2.out.lt not_false)
    have hml : mb < w2.heap.size := HM2.out.lt
    have hcap2 := R3.cap
    have W4 : Hid (Whl (w3.setCell ⟨p, 0, none⟩ (.slice (some ⟨g, 0, none⟩) 1 cap2)) p g cap2 mb 1 clk (Array.push #[] (a, id)) (.map [])) := by
      have K : KeptS (fun k => k = p) w3 (w3.setCell ⟨p, 0, none⟩ (.slice (some ⟨g, 0, none⟩) 1 cap2)) := (KeptS.refl (fun k => k = p) w3).set ⟨p, 0, none⟩ rfl _
      exact ⟨B3.set 0 _, rfl, R3.kept (K.block g R3.lt (by show g ≠ p; omega)), M3.kept (K.block mb M3.lt (by show mb ≠ p; omega)), by omega, by omega, by omega⟩
    have K4 : Hid (KeptS F w (w3.setCell ⟨p, 0, none⟩ (.slice (some ⟨g, 0, none⟩) 1 cap2))) := (HK2.out.trans (K3.mono fun _ _ e => e.elim)).set ⟨p, 0, none⟩ ((hF p).2 rfl) _
    have hgw : Hid (w.heap.size ≤ g) := by
      show _ ≤ _
      have := HK2.out.size
      omega
    obtain ⟨w4, hw4⟩ := nm (w3.setCell ⟨p, 0, none⟩ (.slice (some ⟨g, 0, none⟩) 1 cap2))
    have d4 : w4.cell? ⟨p, 0, none⟩ = some (.slice (some ⟨g, 0, none⟩) 1 cap2) := by rw [hw4.out]; exact (B3.set 0 _).cell 0
    rw [← hw4.out] at W4 K4
    rw [← hw4.out]
    have hup := up_any p g cap2 mb 1 0 clk (Array.push #[] (a, id)) (.map []) (by decide) (by decide) (up_push (A := #[]) (fun j h1 h2 => by simp at h2) (a, id)) (Idx.push idx_nil (x := (a, id)) rfl) (by simp [idsA]) (fun x hx => by simp at hx; rw [hx]; exact hwf) w4 W4.out
    have HUP := Lib.hid hup
    clear hown hown3 hgrow hat hlt3 R3 K3 B3 M3 hg hml hcap2 d0 hup d3 f3 hw4 hws hpl
    go_wp2_with fail
    refine HUP.out.mono ?_; rintro e w5 ⟨rfl, hE⟩
    have HEE : Hid (WL w5 p (PGM p g mb) (setL L a id) clk ∧ KeptS (PGM p g mb) w4 w5) := by
      obtain ⟨s1, s2, s3, s4⟩ := hset.out
      rw [HE1.out] at s1 s2 s3
      exact up_end (A := #[]) (L1 := []) hE (List.Perm.refl _) s1 s2 s3 List.Pairwise.nil (by simp [idsL]) (fun x hx => by cases hx) hwf rfl (by decide) rfl
    clear hE d4
    go_wp2_with fail
    go_ret
    refine ⟨rfl, PGM p g mb, HEE.out.1, K4.out.transOn HEE.out.2 fun k h1 h2 => ?_, fun k h2 => ?_⟩
    · rcases h2 with e | e | e
      · exact (hF k).2 e
      · have := hgw.out; omega
      · have := hmw.out; omega
    · rcases h2 with e | e | e
      · exact .inl ((hF k).2 e)
      · exact .inr (by rw [e]; exact hgw.out)
      · exact .inr (by rw [e]; exact hmw.out)
  · have c0 : w1.cell? ⟨p, 0, none⟩ = some (.slice (some ⟨g, 0, none⟩) L1.length cap1) := q1.blk.cell 0
    have c1 : w1.cell? ⟨p, 1, none⟩ = some (.map (some m)) := q1.blk.cell 1
    have hown : OwnP (w1.alloc (.cells #[.int .i64 a, .int .i64 id] 28)) 0 28 (.slice (some ⟨g, 0, none⟩) L1.length cap1) A.toList := by
      have := (q1.row.kept (Below.heap_alloc w1 (.cells #[.int .i64 a, .int .i64 id] 28) g q1.row.lt)).own (base := 0) (Nat.zero_le _)
      rwa [q1.size] at this
    have hAl : A.toList.length = L1.length := q4.length_eq
    have HQ := Lib.hid q1
    have hni : id ∉ idsA A := fun e => hset.out.2.2.1 ((ids_perm_L q4).mem_iff.1 e)
    have HNI := Lib.hid hni
    have HWA := Lib.hid h1
    have HQ4 := Lib.hid q4
    obtain ⟨N, hN⟩ := nm L1.length
    unfold OwnP at hown
    rw [← hN.out] at c0 hlen hown HQ hAl
    rw [hAl] at hown
    clear h1 q1 q4 hni hmm hAl
    go_upto_region 11 with fail
    go_upto_region 12 with (at_builtin; refine wpList_append_lies _ rfl _ _ 34 rfl 0 28 i0 (.agg #[.int .i64 0, .int .i64 0]) 2 16 Try.underlying34 hi hz0 hz1 hz2 rfl (by decide) (.slice (some ⟨g, 0, none⟩) N cap1) N _ rfl hown ⟨w1.heap.size, 0, none⟩ 1 1 [.int .i64 a, .int .i64 id] rfl rfl (World.news_of_block (heap_alloc_new w1 _)) (by simp [Value.oneCell']) (by decide) (by unfold maxLen; omega) (by omega) (Nat.zero_le _) (w1.heap.size + 1) (by simp) ?_; intro g2 cap2 w3 hown3 hgrow hat hlt3; have K3 : KeptS (fun k => k = g) w1 w3 := kept_some hgrow; have B3 := K3.blk HQ.out.blk HQ.out.pg; have d3 : w3.cell? ⟨p, 0, none⟩ = some (.slice (some ⟨g, 0, none⟩) N cap1) := B3.cell 0; have f3 : w3.frozen? ⟨p, 0, none⟩ = false := B3.free 0)
    have R3 : RowG w3 g2 cap2 (A.push (a, id)) := set_row (x := (a, id)) hown3 HQ.out.size
    have hg : g2 = g ∨ g2 = w1.heap.size + 1 := by
      rcases hat with e | e
      · exact .inl (by simpa [Value.ownBlock] using e.symm)
      · exact .inr e
    have hpl := HQ.out.blk.lt
    have hml : m < w1.heap.size := HQ.out.map.lt
    have hp2 : g2 ≠ p := by
      rcases hg with e | e
      · rw [e]; exact HQ.out.pg.symm
      · omega
    have hm2 : g2 ≠ m := by
      rcases hg with e | e
      · rw [e]; exact HQ.out.gm
      · omega
    have M3 := HQ.out.map.kept (K3.block m HQ.out.map.lt HQ.out.gm.symm)
    have W4 : Hid (Whl (w3.setCell ⟨p, 0, none⟩ (.slice (some ⟨g2, 0, none⟩) (N + 1) cap2)) p g2 cap2 m (N + 1) clk (A.push (a, id)) D) := by
      have K : KeptS (fun k => k = p) w3 (w3.setCell ⟨p, 0, none⟩ (.slice (some ⟨g2, 0, none⟩) (N + 1) cap2)) := (KeptS.refl (fun k => k = p) w3).set ⟨p, 0, none⟩ rfl _
      exact ⟨B3.set 0 _, by rw [Array.size_push, HQ.out.size], R3.kept (K.block g2 R3.lt hp2), M3.kept (K.block m M3.lt HQ.out.pm.symm), hp2.symm, HQ.out.pm, hm2⟩
    have K4 : Hid (KeptS F w (w3.setCell ⟨p, 0, none⟩ (.slice (some ⟨g2, 0, none⟩) (N + 1) cap2))) := (HK1.out.trans (K3.mono fun k _ e => (hF k).2 (.inr (.inl e)))).set ⟨p, 0, none⟩ ((hF p).2 (.inl rfl)) _
    have hgw : Hid (F g2 ∨ w.heap.size ≤ g2) := by
      rcases hg with e | e
      · exact .inl ((hF g2).2 (.inr (.inl e)))
      · have := HK1.out.size
        exact .inr (by omega)
    obtain ⟨w4, hw4⟩ := nm (w3.setCell ⟨p, 0, none⟩ (.slice (some ⟨g2, 0, none⟩) (N + 1) cap2))
    have d4 : w4.cell? ⟨p, 0, none⟩ = some (.slice (some ⟨g2, 0, none⟩) (N + 1) cap2) := by rw [hw4.out]; exact (B3.set 0 _).cell 0
    rw [← hw4.out] at W4 K4
    rw [← hw4.out]
    have hAN : A.size = N := HQ.out.size
    have hnA : (idsA A).Nodup := (ids_perm_L HQ4.out).nodup_iff.2 HWA.out.nodup
    have hup := up_any p g2 cap2 m (N + 1) A.size clk (A.push (a, id)) D (by omega) (by omega) (up_push q2 (a, id)) (q3.push (by rw [q3.has_iff]; exact decide_eq_false HNI.out))
      (by simp only [idsA, Array.toList_push, List.map_append, List.map_cons, List.map_nil]; exact ((List.perm_append_singleton _ _).nodup_iff.2 (List.nodup_cons.2 ⟨HNI.out, hnA⟩)))
      (fun x hx => by
        rw [Array.toList_push] at hx
        rcases List.mem_append.1 hx with h | h
        · exact (HWA.out.wf.heap HQ4.out) x h
        · rw [List.mem_singleton.1 h]; exact hwf) w4 W4.out
    rw [hAN] at hup
    have HUP := Lib.hid hup
    have hw1 : IntKind.i64.wrap (((N + 1 : Nat) : Int) - 1) = (N : Int) := by rw [IntWalk.i64_in _ (by omega)]; omega
    have hN1 : ((N + 1 : Nat) : Int) - 1 = (N : Int) := by omega
    clear hown hown3 hgrow hat hlt3 R3 K3 B3 M3 hg hml hup d3 f3 hw4 hpl c0 c1 hp2 hm2 hAN hnA
    go_wp2_with fail
    refine HUP.out.mono ?_; rintro e w5 ⟨rfl, hE⟩
    have HEE : Hid (WL w5 p (PGM p g2 m) (setL L a id) clk ∧ KeptS (PGM p g2 m) w4 w5) := by
      obtain ⟨s1, s2, s3, s4⟩ := hset.out
      exact up_end hE HQ4.out s1 s2 s3 HWA.out.asc HWA.out.nodup HWA.out.wf hwf (by rw [← hN.out]) (by omega) rfl
    clear hE d4
    go_wp2_with fail
    go_ret
    refine ⟨rfl, PGM p g2 m, HEE.out.1, K4.out.transOn HEE.out.2 fun k h1 h2 => ?_, fun k h2 => ?_⟩
    · rcases h2 with e | e | e
      · exact (hF k).2 (.inl e)
      · rcases hgw.out with h | h
        · rw [e]; exact h
        · omega
      · exact (hF k).2 (.inr (.inr e))
    · rcases h2 with e | e | e
      · exact .inl ((hF k).2 (.inl e))
      · rw [e]; exact hgw.out
      · exact .inl ((hF k).2 (.inr (.inr e)))
end Go.Proofs.Ytipnfalmnoieiaa
