/- WireReads: for any bytes the law returns true. -/
import Derived.Test.YtfpjdmplepepjaaGreatWRefWR
import Derived.Test.YtfpjdmplepepjaaGreatK6
import Derived.Test.YtfpjdmplepepjaaGreatK9
import Derived.Test.YtfpjdmplepepjaaGreatK5
import Derived.Test.YtfpjdmplepepjaaGreatK1
import Derived.Outline
namespace Go.Proofs.YtfpjdmplepepjaaGreat
open Go.RowKit

theorem Heard.both {S : ByteArray} {m m' : WL} {E E' : Int} (h : Heard S m E) (g : Heard S m' E') : m = m' ∧ E = E' := by
  rcases h with ⟨rfl, h⟩ | ⟨rfl, rfl, h⟩
  · rcases g with ⟨rfl, g⟩ | ⟨_, _, g⟩
    · exact ⟨h.one g, rfl⟩
    · exact absurd h (g _)
  · rcases g with ⟨_, g⟩ | ⟨rfl, rfl, _⟩
    · exact absurd g (h _)
    · exact ⟨rfl, rfl⟩

set_option maxRecDepth 100000 in
set_option maxHeartbeats 8000000 in
theorem wireReads_walk (S : ByteArray) (W : World) :
    Calls Tryz.prog 3 #[.string S] W fun e W' => e = .returned (.bool true) ∧ Below W.heap.size W W' := by
  obtain ⟨T, hT⟩ := nm (ofL ((bl S).take 300))
  have hT3 : T.size ≤ 300 := by rw [hT.out, ofL_size, List.length_take]; omega
  have HSH := Lib.hid (fun w => short_any S 300 w)
  rw [← hT.out] at HSH
  go_enter Tryz.func3, Tryz.ntmps3
  go_wp2_with fail
  refine (awake_any _).mono ?_; rintro e w1 ⟨rfl, hB1⟩
  have HB : Hid (Below W.heap.size W w1) := hB1
  clear hB1
  go_wp2_with fail
  refine (HSH.out _).mono ?_; rintro e w2 ⟨rfl, rfl⟩
  go_wp2_with fail
  refine (wread_any T _ (by omega)).mono ?_; rintro e w5 ⟨k, f, s, p, fl, d0, d1, rc, lg, mark, am, ab, ac, ag, av, nl, kl, nb, kb, nc, kc, ng, kg, nv, kv, live, bs, cl, tags, view, E, rfl, hli, _, hh, hB5⟩
  have HH := Lib.hid hh
  have HL := Lib.hid hli
  replace HB := Lib.hid (bNext HB.out hB5)
  clear hli hh hB5 HSH
  obtain ⟨x, hx⟩ := nm w5.heap.size
  obtain ⟨w6, hw6⟩ := nm (w5.alloc (.cells #[.int .i64 k, .int .i64 f, .int .i64 s, .int .i64 p, .int .i64 fl, .string mark, .slice am nl kl, .slice ab nb kb, .slice ac nc kc, .slice ag ng kg, .slice av nv kv, .int .i64 d0, .int .i64 d1, .int .i64 rc, .int .i64 lg] 35))
  have Kx : Hid (Blk w6 x #[.int .i64 k, .int .i64 f, .int .i64 s, .int .i64 p, .int .i64 fl, .string mark, .slice am nl kl, .slice ab nb kb, .slice ac nc kc, .slice ag ng kg, .slice av nv kv, .int .i64 d0, .int .i64 d1, .int .i64 rc, .int .i64 lg] 35) := blkN hw6.out hx.out
  replace HL : Hid (Lies w6 am ab ac ag av nl nb nc ng nv live bs cl tags view) := by show Lies _ _ _ _ _ _ _ _ _ _ _ _ _ _ _ _; rw [hw6.out]; exact HL.out.below (bOld _)
  replace HB : Hid (Below W.heap.size W w6) := by show Below _ _ _; rw [hw6.out]; exact bNew HB.out _
  go_upto_region 4 with fail
  rw [← hw6.out, ← hx.out]
  clear hw6
  go_wp2_with fail
  refine (refwread_any T _ (by omega)).mono ?_; rintro e w7 ⟨k', f', s', p', fl', d0', d1', rc', lg', mark', am', ab', ac', ag', av', nl', kl', nb', kb', nc', kc', ng', kg', nv', kv', live', bs', cl', tags', view', E', rfl, hli', _, hh', hB7⟩
  obtain ⟨hm, rfl⟩ := HH.out.both hh'
  have HM := Lib.hid hm
  have HL' := Lib.hid hli'
  replace Kx := Lib.hid (Kx.out.below hB7 Kx.out.lt)
  replace HL := Lib.hid (HL.out.below hB7)
  replace HB := Lib.hid (bNext HB.out hB7)
  clear hli' hh' hB7 hm HH
  obtain ⟨y, hy⟩ := nm w7.heap.size
  obtain ⟨w8, hw8⟩ := nm (w7.alloc (.cells #[.int .i64 k', .int .i64 f', .int .i64 s', .int .i64 p', .int .i64 fl', .string mark', .slice am' nl' kl', .slice ab' nb' kb', .slice ac' nc' kc', .slice ag' ng' kg', .slice av' nv' kv', .int .i64 d0', .int .i64 d1', .int .i64 rc', .int .i64 lg'] 35))
  have Ky : Hid (Blk w8 y #[.int .i64 k', .int .i64 f', .int .i64 s', .int .i64 p', .int .i64 fl', .string mark', .slice am' nl' kl', .slice ab' nb' kb', .slice ac' nc' kc', .slice ag' ng' kg', .slice av' nv' kv', .int .i64 d0', .int .i64 d1', .int .i64 rc', .int .i64 lg'] 35) := blkN hw8.out hy.out
  replace Kx : Hid (Blk w8 x #[.int .i64 k, .int .i64 f, .int .i64 s, .int .i64 p, .int .i64 fl, .string mark, .slice am nl kl, .slice ab nb kb, .slice ac nc kc, .slice ag ng kg, .slice av nv kv, .int .i64 d0, .int .i64 d1, .int .i64 rc, .int .i64 lg] 35) := by show Blk _ _ _ _; rw [hw8.out]; exact Kx.out.alloc _
  replace HL : Hid (Lies w8 am ab ac ag av nl nb nc ng nv live bs cl tags view) := by show Lies _ _ _ _ _ _ _ _ _ _ _ _ _ _ _ _; rw [hw8.out]; exact HL.out.below (bOld _)
  replace HL' : Hid (Lies w8 am' ab' ac' ag' av' nl' nb' nc' ng' nv' live' bs' cl' tags' view') := by show Lies _ _ _ _ _ _ _ _ _ _ _ _ _ _ _ _; rw [hw8.out]; exact HL'.out.below (bOld _)
  replace HB : Hid (Below W.heap.size W w8) := by show Below _ _ _; rw [hw8.out]; exact bNew HB.out _
  go_upto_region 5 with fail
  rw [← hw8.out, ← hy.out]
  clear hw8
  have c0 : w8.cell? ⟨x, 0, none⟩ = some (.int .i64 k) := Kx.out.cell 0
  have c1 : w8.cell? ⟨x, 1, none⟩ = some (.int .i64 f) := Kx.out.cell 1
  have c2 : w8.cell? ⟨x, 2, none⟩ = some (.int .i64 s) := Kx.out.cell 2
  have c3 : w8.cell? ⟨x, 3, none⟩ = some (.int .i64 p) := Kx.out.cell 3
  have c4 : w8.cell? ⟨x, 4, none⟩ = some (.int .i64 fl) := Kx.out.cell 4
  have c5 : w8.cell? ⟨x, 5, none⟩ = some (.string mark) := Kx.out.cell 5
  have c6 : w8.cell? ⟨x, 6, none⟩ = some (.slice am nl kl) := Kx.out.cell 6
  have c7 : w8.cell? ⟨x, 7, none⟩ = some (.slice ab nb kb) := Kx.out.cell 7
  have c8 : w8.cell? ⟨x, 8, none⟩ = some (.slice ac nc kc) := Kx.out.cell 8
  have c9 : w8.cell? ⟨x, 9, none⟩ = some (.slice ag ng kg) := Kx.out.cell 9
  have c10 : w8.cell? ⟨x, 10, none⟩ = some (.slice av nv kv) := Kx.out.cell 10
  have c11 : w8.cell? ⟨x, 11, none⟩ = some (.int .i64 d0) := Kx.out.cell 11
  have c12 : w8.cell? ⟨x, 12, none⟩ = some (.int .i64 d1) := Kx.out.cell 12
  have c13 : w8.cell? ⟨x, 13, none⟩ = some (.int .i64 rc) := Kx.out.cell 13
  have c14 : w8.cell? ⟨x, 14, none⟩ = some (.int .i64 lg) := Kx.out.cell 14
  have e0 : w8.cell? ⟨y, 0, none⟩ = some (.int .i64 k') := Ky.out.cell 0
  have e1 : w8.cell? ⟨y, 1, none⟩ = some (.int .i64 f') := Ky.out.cell 1
  have e2 : w8.cell? ⟨y, 2, none⟩ = some (.int .i64 s') := Ky.out.cell 2
  have e3 : w8.cell? ⟨y, 3, none⟩ = some (.int .i64 p') := Ky.out.cell 3
  have e4 : w8.cell? ⟨y, 4, none⟩ = some (.int .i64 fl') := Ky.out.cell 4
  have e5 : w8.cell? ⟨y, 5, none⟩ = some (.string mark') := Ky.out.cell 5
  have e6 : w8.cell? ⟨y, 6, none⟩ = some (.slice am' nl' kl') := Ky.out.cell 6
  have e7 : w8.cell? ⟨y, 7, none⟩ = some (.slice ab' nb' kb') := Ky.out.cell 7
  have e8 : w8.cell? ⟨y, 8, none⟩ = some (.slice ac' nc' kc') := Ky.out.cell 8
  have e9 : w8.cell? ⟨y, 9, none⟩ = some (.slice ag' ng' kg') := Ky.out.cell 9
  have e10 : w8.cell? ⟨y, 10, none⟩ = some (.slice av' nv' kv') := Ky.out.cell 10
  have e11 : w8.cell? ⟨y, 11, none⟩ = some (.int .i64 d0') := Ky.out.cell 11
  have e12 : w8.cell? ⟨y, 12, none⟩ = some (.int .i64 d1') := Ky.out.cell 12
  have e13 : w8.cell? ⟨y, 13, none⟩ = some (.int .i64 rc') := Ky.out.cell 13
  have e14 : w8.cell? ⟨y, 14, none⟩ = some (.int .i64 lg') := Ky.out.cell 14
  go_wp2_with fail
  refine (refwsame_any k f s p fl d0 d1 rc lg mark am ab ac ag av nl kl nb kb nc kc ng kg nv kv live bs cl tags view k' f' s' p' fl' d0' d1' rc' lg' mark' am' ab' ac' ag' av' nl' kl' nb' kb' nc' kc' ng' kg' nv' kv' live' bs' cl' tags' view' true (itT HM) _ HL.out HL'.out).mono ?_; rintro e w9 ⟨rfl, hB9⟩
  replace HB := Lib.hid (bNext HB.out hB9)
  clear hB9 c0 c1 c2 c3 c4 c5 c6 c7 c8 c9 c10 c11 c12 c13 c14 e0 e1 e2 e3 e4 e5 e6 e7 e8 e9 e10 e11 e12 e13 e14 Kx Ky HL HL' HM hx hy
  go_wp2_with fail
  go_ret
  exact ⟨rfl, HB.out⟩
namespace LWireReads
open Go.ChangeShapes Go.WideShapes Go.ChangeAt
open Go.ChangeMaps (open_string shut_string)

set_option maxRecDepth 100000 in
theorem contract (H : Type) (enc : TypeId × Value → H) (W : World) (base : Nat) (args : Array Value) (ds gs : List (DataW H)) (before : List MemPlace)
    (hval : ∀ (j : Nat) t v, Tryz.f3.params[j]? = some t → args[j]? = some v → Value.okWide Tryz.prog W .any base t v)
    (hW : DataW.Whole enc Tryz.prog Tryz.f3.params.toList Rows.wireReadsSpec.vars false W args.toList ds gs before)
    (_hsz : (DataW.weightsEach Tryz.prog (Tryz.f3.params.toList ++ (OpenSpec.ofChange Rows.wireReadsSpec).bare.plain.varTypes Tryz.prog) (ds ++ gs)).all (fun x => decide (x ≤ reachBytes)) = true) :
    Calls Tryz.prog 3 args W fun e W' => ∃ v, e = .returned v ∧ Rows.wireReadsSpec.post enc Tryz.prog Tryz.f3 false true false false W args v W' := by
  have hW' := hW
  obtain ⟨p, q, hA0, hV, rfl, hfz, hnd⟩ := hW
  have hA : DataW.TrodAll enc Tryz.prog W 0 (fun _ => true) true Tryz.f3.params.toList args.toList ds p := hA0
  rw [Tryz.params3] at hA hval
  obtain ⟨v0, vs0, d0, ds0, p0, q0, hargs, rfl, rfl, h0, r0⟩ := trodAll_cons hA
  obtain ⟨rfl, rfl, rfl⟩ := trodAll_nil r0
  obtain rfl : args = #[v0] := by cases args; simp_all
  obtain ⟨rfl, rfl⟩ := trodVars_none hV
  obtain ⟨x0, rfl, rfl, rfl, k0⟩ := open_string Tryz.underlying9 (hval 0 9 v0 rfl rfl) h0
  clear hA0
  refine (wireReads_walk x0 W).mono fun e W' ⟨he, hb⟩ => ?_
  subst he
  exact ⟨_, rfl, law_post laidOut Tryz.underlying4 rfl (by kernel_rfl) rfl rfl rfl rfl hW' hb⟩

theorem reads (os : Os) {H : Type} (enc : TypeId × Value → H) : ∃ places, DataW.whole enc Tryz.prog ((World.holding Tryz.prog os ⟨#[], #[], []⟩).forCall (fun _ _ => 0) ⟨#[], #[.string .empty], []⟩).memory Tryz.f3.params.toList Rows.wireReadsSpec.vars false (#[.string .empty] : Array Value).toList 8 = some ([.lit (.string [])], [], places) :=
  ⟨[], by kernel_rfl⟩
theorem laid_met (os : Os) : laidMet Tryz.prog Rows.wireReadsRow.laid ((World.holding Tryz.prog os ⟨#[], #[], []⟩).forCall (fun _ _ => 0) ⟨#[], #[.string .empty], []⟩).memory :=
  laidMet_of_run' 8 (by kernel_rfl) (by kernel_rfl)

set_option maxRecDepth 100000 in
theorem lifted (os : Os) (started : os.Started) (H : Type) (enc : TypeId × Value → H) (F : Stop.Interp) :
    ReturnsInHanded {} Tryz.checked os 3 .any ((OpenSpec.ofChange Rows.wireReadsSpec).preRow enc Tryz.prog Tryz.f3 Rows.wireReadsRow.domain false Rows.wireReadsRow.laid) (((OpenSpec.ofChange Rows.wireReadsSpec).at F).post enc Tryz.prog Tryz.f3 false true false false) := by
  obtain ⟨places, hx⟩ := reads os enc
  refine returnsInHanded_of_row (C := Tryz.checked) (s := OpenSpec.ofChange Rows.wireReadsSpec) own started (by kernel_rfl) Tryz.func3
    (witness_row_at (enc := enc) (C := Tryz.checked) false (World.holding Tryz.prog os ⟨#[], #[], []⟩) #[.string .empty] rfl (by kernel_rfl) (by kernel_rfl) (by kernel_rfl)
      (OpenSpec.preRow_of_cond 8 hx (by kernel_rfl) (fun k hk => by cases hk) (by kernel_rfl) (laid_met os))) ?_
  intro W base args ds gs before hval hW _ _ hsz hL _ _
  exact contract H enc W base args ds gs before hval hW hsz

theorem said : Rows.WireReadsSaid :=
  OpenClaim.holds_of_cond 3 Tryz.f3 rfl rfl rfl rfl rfl rfl rfl ⟨rfl, rfl, rfl, rfl, rfl⟩ rfl rfl rfl rfl rfl (by kernel_rfl) Tryz.func3 (by kernel_rfl)
    (of_decide_eq_true (by kernel_rfl)) (by unfold Func.isWrapper; first | (rw [if_pos (by decide +kernel)]; kernel_rfl) | (rw [if_neg (by decide +kernel)]; exact ⟨rfl, rfl⟩))
    (fun os started H enc _ F => by rw [OpenClaim.pre_eq_preRow]; exact lifted os started H enc F)
end LWireReads
end Go.Proofs.YtfpjdmplepepjaaGreat
