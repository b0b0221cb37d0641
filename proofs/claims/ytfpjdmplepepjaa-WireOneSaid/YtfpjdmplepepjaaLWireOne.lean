/- WireOne: for any two that are said the law returns true. -/
import Derived.Test.YtfpjdmplepepjaaJ7
import Derived.Test.YtfpjdmplepepjaaJ1
import Derived.Outline
namespace Go.Proofs.Ytfpjdmplepepjaa
open Go.RowKit

set_option maxRecDepth 100000 in
set_option maxHeartbeats 8000000 in
theorem wireOne_walk (k f s p fl d0 d1 rc lg : Int) (mark : ByteArray) (am ab ac ag av : Option Addr) (nl kl nb kb nc kc ng kg nv kv : Nat) (live : List Msg5) (bs cl : List Dot2) (tags : List Tag2) (view : List Peer3) (hl0 : Hid (live.length = nl)) (hl1 : Hid (bs.length = nb ∧ nb ≤ kb)) (hl2 : Hid (cl.length = nc ∧ nc ≤ kc)) (hl3 : Hid (tags.length = ng)) (hl4 : Hid (view.length = nv ∧ nv ≤ kv)) (k' f' s' p' fl' d0' d1' rc' lg' : Int) (mark' : ByteArray) (am' ab' ac' ag' av' : Option Addr) (nl' kl' nb' kb' nc' kc' ng' kg' nv' kv' : Nat) (live' : List Msg5) (bs' cl' : List Dot2) (tags' : List Tag2) (view' : List Peer3) (hl0' : Hid (live'.length = nl')) (hl1' : Hid (bs'.length = nb' ∧ nb' ≤ kb')) (hl2' : Hid (cl'.length = nc' ∧ nc' ≤ kc')) (hl3' : Hid (tags'.length = ng')) (hl4' : Hid (view'.length = nv' ∧ nv' ≤ kv')) (one : Bool) (W : World) (g0 : SlE eMsg 5 W am live) (g1 : SlE eDot 2 W ab bs) (g2 : SlE eDot 2 W ac cl) (g3 : SlE eTag 2 W ag tags) (g4 : SlE ePeer 3 W av view) (g0' : SlE eMsg 5 W am' live') (g1' : SlE eDot 2 W ab' bs') (g2' : SlE eDot 2 W ac' cl') (g3' : SlE eTag 2 W ag' tags') (g4' : SlE ePeer 3 W av' view') :
    Calls Try.prog 5 #[.agg #[.int .i64 k, .int .i64 f, .int .i64 s, .int .i64 p, .int .i64 fl, .string mark, .slice am nl kl, .slice ab nb kb, .slice ac nc kc, .slice ag ng kg, .slice av nv kv, .int .i64 d0, .int .i64 d1, .int .i64 rc, .int .i64 lg], .agg #[.int .i64 k', .int .i64 f', .int .i64 s', .int .i64 p', .int .i64 fl', .string mark', .slice am' nl' kl', .slice ab' nb' kb', .slice ac' nc' kc', .slice ag' ng' kg', .slice av' nv' kv', .int .i64 d0', .int .i64 d1', .int .i64 rc', .int .i64 lg'], .bool one] W fun e W' => e = .returned (.bool true) ∧ Below W.heap.size W W' := by
  have G0 := Lib.hid g0
  have G1 := Lib.hid g1
  have G2 := Lib.hid g2
  have G3 := Lib.hid g3
  have G4 := Lib.hid g4
  have G0' := Lib.hid g0'
  have G1' := Lib.hid g1'
  have G2' := Lib.hid g2'
  have G3' := Lib.hid g3'
  have G4' := Lib.hid g4'
  clear g0 g1 g2 g3 g4 g0' g1' g2' g3' g4'
  obtain ⟨wa, hwa⟩ := nm (W.alloc (.cells #[.int .i64 k, .int .i64 f, .int .i64 s, .int .i64 p, .int .i64 fl, .string mark, .slice am nl kl, .slice ab nb kb, .slice ac nc kc, .slice ag ng kg, .slice av nv kv, .int .i64 d0, .int .i64 d1, .int .i64 rc, .int .i64 lg] 33))
  obtain ⟨w0, hw0⟩ := nm (wa.alloc (.cells #[.int .i64 k', .int .i64 f', .int .i64 s', .int .i64 p', .int .i64 fl', .string mark', .slice am' nl' kl', .slice ab' nb' kb', .slice ac' nc' kc', .slice ag' ng' kg', .slice av' nv' kv', .int .i64 d0', .int .i64 d1', .int .i64 rc', .int .i64 lg'] 33))
  obtain ⟨x, hx⟩ := nm W.heap.size
  obtain ⟨y, hy⟩ := nm wa.heap.size
  have Kx : Hid (Blk w0 x #[.int .i64 k, .int .i64 f, .int .i64 s, .int .i64 p, .int .i64 fl, .string mark, .slice am nl kl, .slice ab nb kb, .slice ac nc kc, .slice ag ng kg, .slice av nv kv, .int .i64 d0, .int .i64 d1, .int .i64 rc, .int .i64 lg] 33) := by show Blk _ _ _ _; rw [hw0.out]; exact (blkN hwa.out hx.out).alloc _
  have Ky : Hid (Blk w0 y #[.int .i64 k', .int .i64 f', .int .i64 s', .int .i64 p', .int .i64 fl', .string mark', .slice am' nl' kl', .slice ab' nb' kb', .slice ac' nc' kc', .slice ag' ng' kg', .slice av' nv' kv', .int .i64 d0', .int .i64 d1', .int .i64 rc', .int .i64 lg'] 33) := blkN hw0.out hy.out
  have HB0 : Hid (Below W.heap.size W w0) := by rw [hw0.out, hwa.out]; exact bNew (bOld _) _
  have HSZ : Hid (x + 1 = y) := by show _ = _; rw [hy.out, hwa.out, hx.out]; simp
  have HXW : Hid (W.heap.size ≤ x ∧ W.heap.size ≤ y ∧ x ≠ y ∧ y ≠ x) := by show _ ∧ _; have := HSZ.out; have := hx.out; omega
  go_enter Try.func5, Try.ntmps5
  go_upto_region 1 with fail
  rw [← hwa.out, ← hw0.out, ← hx.out]
  rw [HSZ.out]
  go_wp2_with fail
  refine (awake_any _).mono ?_; rintro e w1 ⟨rfl, hB1⟩
  replace Kx := Lib.hid (Kx.out.below hB1 Kx.out.lt)
  replace Ky := Lib.hid (Ky.out.below hB1 Ky.out.lt)
  have HB1 : Hid (Below W.heap.size W w1) := bNext HB0.out hB1
  clear hB1 HB0 hw0 hwa
  have c0 : w1.cell? ⟨x, 0, none⟩ = some (.int .i64 k) := Kx.out.cell 0
  have c1 : w1.cell? ⟨x, 1, none⟩ = some (.int .i64 f) := Kx.out.cell 1
  have c2 : w1.cell? ⟨x, 2, none⟩ = some (.int .i64 s) := Kx.out.cell 2
  have c3 : w1.cell? ⟨x, 3, none⟩ = some (.int .i64 p) := Kx.out.cell 3
  have c4 : w1.cell? ⟨x, 4, none⟩ = some (.int .i64 fl) := Kx.out.cell 4
  have c5 : w1.cell? ⟨x, 5, none⟩ = some (.string mark) := Kx.out.cell 5
  have c6 : w1.cell? ⟨x, 6, none⟩ = some (.slice am nl kl) := Kx.out.cell 6
  have c7 : w1.cell? ⟨x, 7, none⟩ = some (.slice ab nb kb) := Kx.out.cell 7
  have c8 : w1.cell? ⟨x, 8, none⟩ = some (.slice ac nc kc) := Kx.out.cell 8
  have c9 : w1.cell? ⟨x, 9, none⟩ = some (.slice ag ng kg) := Kx.out.cell 9
  have c10 : w1.cell? ⟨x, 10, none⟩ = some (.slice av nv kv) := Kx.out.cell 10
  have c11 : w1.cell? ⟨x, 11, none⟩ = some (.int .i64 d0) := Kx.out.cell 11
  have c12 : w1.cell? ⟨x, 12, none⟩ = some (.int .i64 d1) := Kx.out.cell 12
  have c13 : w1.cell? ⟨x, 13, none⟩ = some (.int .i64 rc) := Kx.out.cell 13
  have c14 : w1.cell? ⟨x, 14, none⟩ = some (.int .i64 lg) := Kx.out.cell 14
  go_wp2_with fail
  refine (small_any k f s p fl d0 d1 rc lg mark am ab ac ag av nl kl nb kb nc kc ng kg nv kv live bs cl tags view hl0 hl1 hl2 hl3 hl4 _ (G0.out.below HB1.out) (G1.out.below HB1.out) (G2.out.below HB1.out) (G3.out.below HB1.out) (G4.out.below HB1.out)).mono ?_
  rintro e w2 ⟨mk, am2, ag2, nl2, kl2, nb2, nc2, ng2, kg2, nv2, live2, tags2, rfl, hln, hs0, hs3, hsm, hB2⟩
  have HLY : Hid (y < w1.heap.size) := Ky.out.lt
  have HLX : Hid (x < w1.heap.size) := Kx.out.lt
  replace Kx := Lib.hid (Kx.out.below hB2 Kx.out.lt)
  replace Ky := Lib.hid (Ky.out.below hB2 Ky.out.lt)
  have HB2 : Hid (Below W.heap.size W w2) := bNext HB1.out hB2
  have HO : Hid (HoldsW x y x (w2.setRow x #[.int .i64 k, .int .i64 f, .int .i64 s, .int .i64 p, .int .i64 fl, .string mk, .slice am2 nl2 kl2, .slice ab nb2 kb, .slice ac nc2 kc, .slice ag2 ng2 kg2, .slice av nv2 kv, .int .i64 d0, .int .i64 d1, .int .i64 rc, .int .i64 lg])) := HoldsW.laid HB2.out HXW.out.1 HXW.out.2.1 HLX.out HLY.out (.inl rfl) Kx.out G1.out G2.out G4.out hln hs0 hs3 hsm
  clear hln hs0 hs3 hsm hB2 c0 c1 c2 c3 c4 c5 c6 c7 c8 c9 c10 c11 c12 c13 c14 HLX HLY HB1
  have hone : (#[.int .i64 k, .int .i64 f, .int .i64 s, .int .i64 p, .int .i64 fl, .string mk, .slice am2 nl2 kl2, .slice ab nb2 kb, .slice ac nc2 kc, .slice ag2 ng2 kg2, .slice av nv2 kv, .int .i64 d0, .int .i64 d1, .int .i64 rc, .int .i64 lg] : Array Value).all (·.oneCell') = true := by simp [Value.oneCell']
  go_upto_region 3 with (refine wpList_store_row rfl 33 _ _ rfl x #[.int .i64 k, .int .i64 f, .int .i64 s, .int .i64 p, .int .i64 fl, .string mk, .slice am2 nl2 kl2, .slice ab nb2 kb, .slice ac nc2 kc, .slice ag2 ng2 kg2, .slice av nv2 kv, .int .i64 d0, .int .i64 d1, .int .i64 rc, .int .i64 lg] rfl rfl 33 #[.int .i64 k, .int .i64 f, .int .i64 s, .int .i64 p, .int .i64 fl, .string mark, .slice am nl kl, .slice ab nb kb, .slice ac nc kc, .slice ag ng kg, .slice av nv kv, .int .i64 d0, .int .i64 d1, .int .i64 rc, .int .i64 lg] Kx.out infoWire rfl hone ?_)
  obtain ⟨w3, hw3⟩ := nm (w2.setRow x #[.int .i64 k, .int .i64 f, .int .i64 s, .int .i64 p, .int .i64 fl, .string mk, .slice am2 nl2 kl2, .slice ab nb2 kb, .slice ac nc2 kc, .slice ag2 ng2 kg2, .slice av nv2 kv, .int .i64 d0, .int .i64 d1, .int .i64 rc, .int .i64 lg])
  rw [← hw3.out]
  rw [← hw3.out] at HO
  replace Ky : Hid (Blk w3 y #[.int .i64 k', .int .i64 f', .int .i64 s', .int .i64 p', .int .i64 fl', .string mark', .slice am' nl' kl', .slice ab' nb' kb', .slice ac' nc' kc', .slice ag' ng' kg', .slice av' nv' kv', .int .i64 d0', .int .i64 d1', .int .i64 rc', .int .i64 lg'] 33) := by show Blk _ _ _ _; rw [hw3.out]; exact (setRow_other _ _ _ _ HXW.out.2.2.2).trans Ky.out
  have HB3 : Hid (Below W.heap.size W w3) := by rw [hw3.out]; exact below_setRow HB2.out HXW.out.1 _
  have HLX3 : Hid (x < w3.heap.size) := by show _ < _; rw [hw3.out]; simpa [World.setRow] using Kx.out.lt
  clear hone HB2 hw3 Kx
  have c0 : w3.cell? ⟨y, 0, none⟩ = some (.int .i64 k') := Ky.out.cell 0
  have c1 : w3.cell? ⟨y, 1, none⟩ = some (.int .i64 f') := Ky.out.cell 1
  have c2 : w3.cell? ⟨y, 2, none⟩ = some (.int .i64 s') := Ky.out.cell 2
  have c3 : w3.cell? ⟨y, 3, none⟩ = some (.int .i64 p') := Ky.out.cell 3
  have c4 : w3.cell? ⟨y, 4, none⟩ = some (.int .i64 fl') := Ky.out.cell 4
  have c5 : w3.cell? ⟨y, 5, none⟩ = some (.string mark') := Ky.out.cell 5
  have c6 : w3.cell? ⟨y, 6, none⟩ = some (.slice am' nl' kl') := Ky.out.cell 6
  have c7 : w3.cell? ⟨y, 7, none⟩ = some (.slice ab' nb' kb') := Ky.out.cell 7
  have c8 : w3.cell? ⟨y, 8, none⟩ = some (.slice ac' nc' kc') := Ky.out.cell 8
  have c9 : w3.cell? ⟨y, 9, none⟩ = some (.slice ag' ng' kg') := Ky.out.cell 9
  have c10 : w3.cell? ⟨y, 10, none⟩ = some (.slice av' nv' kv') := Ky.out.cell 10
  have c11 : w3.cell? ⟨y, 11, none⟩ = some (.int .i64 d0') := Ky.out.cell 11
  have c12 : w3.cell? ⟨y, 12, none⟩ = some (.int .i64 d1') := Ky.out.cell 12
  have c13 : w3.cell? ⟨y, 13, none⟩ = some (.int .i64 rc') := Ky.out.cell 13
  have c14 : w3.cell? ⟨y, 14, none⟩ = some (.int .i64 lg') := Ky.out.cell 14
  go_wp2_with fail
  refine (small_any k' f' s' p' fl' d0' d1' rc' lg' mark' am' ab' ac' ag' av' nl' kl' nb' kb' nc' kc' ng' kg' nv' kv' live' bs' cl' tags' view' hl0' hl1' hl2' hl3' hl4' _ (G0'.out.below HB3.out) (G1'.out.below HB3.out) (G2'.out.below HB3.out) (G3'.out.below HB3.out) (G4'.out.below HB3.out)).mono ?_
  rintro e w4 ⟨mk, am2, ag2, nl2, kl2, nb2, nc2, ng2, kg2, nv2, live2, tags2, rfl, hln, hs0, hs3, hsm, hB4⟩
  have HLY : Hid (y < w3.heap.size) := Ky.out.lt
  replace Ky := Lib.hid (Ky.out.below hB4 Ky.out.lt)
  replace HO := Lib.hid (HO.out.below hB4)
  have HB4 : Hid (Below W.heap.size W w4) := bNext HB3.out hB4
  have HP : Hid (HoldsW x y y (w4.setRow y #[.int .i64 k', .int .i64 f', .int .i64 s', .int .i64 p', .int .i64 fl', .string mk, .slice am2 nl2 kl2, .slice ab' nb2 kb', .slice ac' nc2 kc', .slice ag2 ng2 kg2, .slice av' nv2 kv', .int .i64 d0', .int .i64 d1', .int .i64 rc', .int .i64 lg'])) := HoldsW.laid HB4.out HXW.out.1 HXW.out.2.1 HLX3.out HLY.out (.inr rfl) Ky.out G1'.out G2'.out G4'.out hln hs0 hs3 hsm
  clear hln hs0 hs3 hsm hB4 c0 c1 c2 c3 c4 c5 c6 c7 c8 c9 c10 c11 c12 c13 c14 HLX3 HLY HB3
  have hone : (#[.int .i64 k', .int .i64 f', .int .i64 s', .int .i64 p', .int .i64 fl', .string mk, .slice am2 nl2 kl2, .slice ab' nb2 kb', .slice ac' nc2 kc', .slice ag2 ng2 kg2, .slice av' nv2 kv', .int .i64 d0', .int .i64 d1', .int .i64 rc', .int .i64 lg'] : Array Value).all (·.oneCell') = true := by simp [Value.oneCell']
  go_upto_region 4 with (refine wpList_store_row rfl 33 _ _ rfl y #[.int .i64 k', .int .i64 f', .int .i64 s', .int .i64 p', .int .i64 fl', .string mk, .slice am2 nl2 kl2, .slice ab' nb2 kb', .slice ac' nc2 kc', .slice ag2 ng2 kg2, .slice av' nv2 kv', .int .i64 d0', .int .i64 d1', .int .i64 rc', .int .i64 lg'] rfl rfl 33 #[.int .i64 k', .int .i64 f', .int .i64 s', .int .i64 p', .int .i64 fl', .string mark', .slice am' nl' kl', .slice ab' nb' kb', .slice ac' nc' kc', .slice ag' ng' kg', .slice av' nv' kv', .int .i64 d0', .int .i64 d1', .int .i64 rc', .int .i64 lg'] Ky.out infoWire rfl hone ?_)
  obtain ⟨w5, hw5⟩ := nm (w4.setRow y #[.int .i64 k', .int .i64 f', .int .i64 s', .int .i64 p', .int .i64 fl', .string mk, .slice am2 nl2 kl2, .slice ab' nb2 kb', .slice ac' nc2 kc', .slice ag2 ng2 kg2, .slice av' nv2 kv', .int .i64 d0', .int .i64 d1', .int .i64 rc', .int .i64 lg'])
  rw [← hw5.out]
  rw [← hw5.out] at HP
  replace HO : Hid (HoldsW x y x w5) := by show HoldsW _ _ _ _; rw [hw5.out]; exact HO.out.two (Two.setRow w4 y _ (.inr rfl)) (setRow_other _ _ _ _ HXW.out.2.2.1)
  have HB5 : Hid (Below W.heap.size W w5) := by rw [hw5.out]; exact below_setRow HB4.out HXW.out.2.1 _
  clear hone HB4 hw5 Ky G0 G1 G2 G3 G4 G0' G1' G2' G3' G4' hl0 hl1 hl2 hl3 hl4 hl0' hl1' hl2' hl3' hl4'
  go_upto_if 18 with fail
  go_cut [18] (fun _ wx => HoldsW x y x wx ∧ HoldsW x y y wx ∧ Below W.heap.size W wx)
  case first => as_aux_lemma =>
    cases one
    · go_wp2_with fail
      go_meet
      exact ⟨HO.out, HP.out, HB5.out⟩
    · obtain ⟨k, f, s, p, fl, d0, d1, rc, lg, mark, am, ab, ac, ag, av, nl, kl, nb, kb, nc, kc, ng, kg, nv, kv, live, bs, cl, tags, view, hk, hli, hf, hsm⟩ := HO.out
      obtain ⟨k', f', s', p', fl', d0', d1', rc', lg', mark', am', ab', ac', ag', av', nl', kl', nb', kb', nc', kc', ng', kg', nv', kv', live', bs', cl', tags', view', hk', _, _, _⟩ := HP.out
      have Kx := Lib.hid hk
      have Ky := Lib.hid hk'
      have HLI := Lib.hid hli
      have HF := Lib.hid hf
      have HSM := Lib.hid hsm
      clear hk hk' hli hf hsm HO HP
      have c0 : w5.cell? ⟨x, 0, none⟩ = some (.int .i64 k) := Kx.out.cell 0
      have c1 : w5.cell? ⟨x, 1, none⟩ = some (.int .i64 f) := Kx.out.cell 1
      have c2 : w5.cell? ⟨x, 2, none⟩ = some (.int .i64 s) := Kx.out.cell 2
      have c3 : w5.cell? ⟨x, 3, none⟩ = some (.int .i64 p) := Kx.out.cell 3
      have c4 : w5.cell? ⟨x, 4, none⟩ = some (.int .i64 fl) := Kx.out.cell 4
      have c5 : w5.cell? ⟨x, 5, none⟩ = some (.string mark) := Kx.out.cell 5
      have c6 : w5.cell? ⟨x, 6, none⟩ = some (.slice am nl kl) := Kx.out.cell 6
      have c7 : w5.cell? ⟨x, 7, none⟩ = some (.slice ab nb kb) := Kx.out.cell 7
      have c8 : w5.cell? ⟨x, 8, none⟩ = some (.slice ac nc kc) := Kx.out.cell 8
      have c9 : w5.cell? ⟨x, 9, none⟩ = some (.slice ag ng kg) := Kx.out.cell 9
      have c10 : w5.cell? ⟨x, 10, none⟩ = some (.slice av nv kv) := Kx.out.cell 10
      have c11 : w5.cell? ⟨x, 11, none⟩ = some (.int .i64 d0) := Kx.out.cell 11
      have c12 : w5.cell? ⟨x, 12, none⟩ = some (.int .i64 d1) := Kx.out.cell 12
      have c13 : w5.cell? ⟨x, 13, none⟩ = some (.int .i64 rc) := Kx.out.cell 13
      have c14 : w5.cell? ⟨x, 14, none⟩ = some (.int .i64 lg) := Kx.out.cell 14
      have hone : (#[.int .i64 k, .int .i64 f, .int .i64 s, .int .i64 p, .int .i64 fl, .string mark, .slice am nl kl, .slice ab nb kb, .slice ac nc kc, .slice ag ng kg, .slice av nv kv, .int .i64 d0, .int .i64 d1, .int .i64 rc, .int .i64 lg] : Array Value).all (·.oneCell') = true := by simp [Value.oneCell']
      go_wp2_with (refine wpList_store_row rfl 33 _ _ rfl y #[.int .i64 k, .int .i64 f, .int .i64 s, .int .i64 p, .int .i64 fl, .string mark, .slice am nl kl, .slice ab nb kb, .slice ac nc kc, .slice ag ng kg, .slice av nv kv, .int .i64 d0, .int .i64 d1, .int .i64 rc, .int .i64 lg] rfl rfl 33 #[.int .i64 k', .int .i64 f', .int .i64 s', .int .i64 p', .int .i64 fl', .string mark', .slice am' nl' kl', .slice ab' nb' kb', .slice ac' nc' kc', .slice ag' ng' kg', .slice av' nv' kv', .int .i64 d0', .int .i64 d1', .int .i64 rc', .int .i64 lg'] Ky.out infoWire rfl hone ?_)
      go_meet
      have ht : Two x y w5 (w5.setRow y #[.int .i64 k, .int .i64 f, .int .i64 s, .int .i64 p, .int .i64 fl, .string mark, .slice am nl kl, .slice ab nb kb, .slice ac nc kc, .slice ag ng kg, .slice av nv kv, .int .i64 d0, .int .i64 d1, .int .i64 rc, .int .i64 lg]) := Two.setRow w5 y _ (.inr rfl)
      exact ⟨⟨k, f, s, p, fl, d0, d1, rc, lg, mark, am, ab, ac, ag, av, nl, kl, nb, kb, nc, kc, ng, kg, nv, kv, live, bs, cl, tags, view, (setRow_other _ _ _ _ HXW.out.2.2.1).trans Kx.out, HLI.out.two HF.out ht, HF.out, HSM.out⟩, ⟨k, f, s, p, fl, d0, d1, rc, lg, mark, am, ab, ac, ag, av, nl, kl, nb, kb, nc, kc, ng, kg, nv, kv, live, bs, cl, tags, view, setRow_heap w5 y _ _ _ _ Ky.out, HLI.out.two HF.out ht, HF.out, HSM.out⟩, below_setRow HB5.out HXW.out.2.1 _⟩
  as_aux_lemma =>
    obtain ⟨ho, hp, hB⟩ := hcut
    clear HO HP HB5
    rename World => w6
    obtain ⟨k, f, s, p, fl, d0, d1, rc, lg, mark, am, ab, ac, ag, av, nl, kl, nb, kb, nc, kc, ng, kg, nv, kv, live, bs, cl, tags, view, hk, hli, _, hsm⟩ := ho
    obtain ⟨k', f', s', p', fl', d0', d1', rc', lg', mark', am', ab', ac', ag', av', nl', kl', nb', kb', nc', kc', ng', kg', nv', kv', live', bs', cl', tags', view', hk', hli', _, hsm'⟩ := hp
    have Kx := Lib.hid hk
    have Ky := Lib.hid hk'
    have HL := Lib.hid hli
    have HL' := Lib.hid hli'
    have HB := Lib.hid hB
    have HSM := Lib.hid hsm
    have HSM' := Lib.hid hsm'
    clear hk hk' hli hli' hB hsm hsm'
    obtain ⟨T, E, hT⟩ := said_is (WL.mk k f s p fl d0 d1 rc lg mark live bs cl tags view)
    obtain ⟨T', E', hT'⟩ := said_is (WL.mk k' f' s' p' fl' d0' d1' rc' lg' mark' live' bs' cl' tags' view')
    have HT := Lib.hid hT
    have HT' := Lib.hid hT'
    clear hT hT'
    obtain ⟨r, hr, hrf, hrt⟩ := boolOf (WL.mk k f s p fl d0 d1 rc lg mark live bs cl tags view = WL.mk k' f' s' p' fl' d0' d1' rc' lg' mark' live' bs' cl' tags' view')
    have c0 : w6.cell? ⟨x, 0, none⟩ = some (.int .i64 k) := Kx.out.cell 0
    have c1 : w6.cell? ⟨x, 1, none⟩ = some (.int .i64 f) := Kx.out.cell 1
    have c2 : w6.cell? ⟨x, 2, none⟩ = some (.int .i64 s) := Kx.out.cell 2
    have c3 : w6.cell? ⟨x, 3, none⟩ = some (.int .i64 p) := Kx.out.cell 3
    have c4 : w6.cell? ⟨x, 4, none⟩ = some (.int .i64 fl) := Kx.out.cell 4
    have c5 : w6.cell? ⟨x, 5, none⟩ = some (.string mark) := Kx.out.cell 5
    have c6 : w6.cell? ⟨x, 6, none⟩ = some (.slice am nl kl) := Kx.out.cell 6
    have c7 : w6.cell? ⟨x, 7, none⟩ = some (.slice ab nb kb) := Kx.out.cell 7
    have c8 : w6.cell? ⟨x, 8, none⟩ = some (.slice ac nc kc) := Kx.out.cell 8
    have c9 : w6.cell? ⟨x, 9, none⟩ = some (.slice ag ng kg) := Kx.out.cell 9
    have c10 : w6.cell? ⟨x, 10, none⟩ = some (.slice av nv kv) := Kx.out.cell 10
    have c11 : w6.cell? ⟨x, 11, none⟩ = some (.int .i64 d0) := Kx.out.cell 11
    have c12 : w6.cell? ⟨x, 12, none⟩ = some (.int .i64 d1) := Kx.out.cell 12
    have c13 : w6.cell? ⟨x, 13, none⟩ = some (.int .i64 rc) := Kx.out.cell 13
    have c14 : w6.cell? ⟨x, 14, none⟩ = some (.int .i64 lg) := Kx.out.cell 14
    go_wp2_with fail
    refine (wbytes_any k f s p fl d0 d1 rc lg mark am ab ac ag av nl kl nb kb nc kc ng kg nv kv live bs cl tags view T E HT _ HL.out).mono ?_; rintro e w7 ⟨rfl, hB7⟩
    replace Kx := Lib.hid (Kx.out.below hB7 Kx.out.lt)
    replace Ky := Lib.hid (Ky.out.below hB7 Ky.out.lt)
    replace HL := Lib.hid (HL.out.below hB7)
    replace HL' := Lib.hid (HL'.out.below hB7)
    replace HB := Lib.hid (bNext HB.out hB7)
    clear hB7 c0 c1 c2 c3 c4 c5 c6 c7 c8 c9 c10 c11 c12 c13 c14
    have e0 : w7.cell? ⟨y, 0, none⟩ = some (.int .i64 k') := Ky.out.cell 0
    have e1 : w7.cell? ⟨y, 1, none⟩ = some (.int .i64 f') := Ky.out.cell 1
    have e2 : w7.cell? ⟨y, 2, none⟩ = some (.int .i64 s') := Ky.out.cell 2
    have e3 : w7.cell? ⟨y, 3, none⟩ = some (.int .i64 p') := Ky.out.cell 3
    have e4 : w7.cell? ⟨y, 4, none⟩ = some (.int .i64 fl') := Ky.out.cell 4
    have e5 : w7.cell? ⟨y, 5, none⟩ = some (.string mark') := Ky.out.cell 5
    have e6 : w7.cell? ⟨y, 6, none⟩ = some (.slice am' nl' kl') := Ky.out.cell 6
    have e7 : w7.cell? ⟨y, 7, none⟩ = some (.slice ab' nb' kb') := Ky.out.cell 7
    have e8 : w7.cell? ⟨y, 8, none⟩ = some (.slice ac' nc' kc') := Ky.out.cell 8
    have e9 : w7.cell? ⟨y, 9, none⟩ = some (.slice ag' ng' kg') := Ky.out.cell 9
    have e10 : w7.cell? ⟨y, 10, none⟩ = some (.slice av' nv' kv') := Ky.out.cell 10
    have e11 : w7.cell? ⟨y, 11, none⟩ = some (.int .i64 d0') := Ky.out.cell 11
    have e12 : w7.cell? ⟨y, 12, none⟩ = some (.int .i64 d1') := Ky.out.cell 12
    have e13 : w7.cell? ⟨y, 13, none⟩ = some (.int .i64 rc') := Ky.out.cell 13
    have e14 : w7.cell? ⟨y, 14, none⟩ = some (.int .i64 lg') := Ky.out.cell 14
    go_wp2_with fail
    refine (wbytes_any k' f' s' p' fl' d0' d1' rc' lg' mark' am' ab' ac' ag' av' nl' kl' nb' kb' nc' kc' ng' kg' nv' kv' live' bs' cl' tags' view' T' E' HT' _ HL'.out).mono ?_; rintro e w8 ⟨rfl, hB7⟩
    replace Kx := Lib.hid (Kx.out.below hB7 Kx.out.lt)
    replace Ky := Lib.hid (Ky.out.below hB7 Ky.out.lt)
    replace HL := Lib.hid (HL.out.below hB7)
    replace HL' := Lib.hid (HL'.out.below hB7)
    replace HB := Lib.hid (bNext HB.out hB7)
    clear hB7 e0 e1 e2 e3 e4 e5 e6 e7 e8 e9 e10 e11 e12 e13 e14
    have c0 : w8.cell? ⟨x, 0, none⟩ = some (.int .i64 k) := Kx.out.cell 0
    have c1 : w8.cell? ⟨x, 1, none⟩ = some (.int .i64 f) := Kx.out.cell 1
    have c2 : w8.cell? ⟨x, 2, none⟩ = some (.int .i64 s) := Kx.out.cell 2
    have c3 : w8.cell? ⟨x, 3, none⟩ = some (.int .i64 p) := Kx.out.cell 3
    have c4 : w8.cell? ⟨x, 4, none⟩ = some (.int .i64 fl) := Kx.out.cell 4
    have c5 : w8.cell? ⟨x, 5, none⟩ = some (.string mark) := Kx.out.cell 5
    have c6 : w8.cell? ⟨x, 6, none⟩ = some (.slice am nl kl) := Kx.out.cell 6
    have c7 : w8.cell? ⟨x, 7, none⟩ = some (.slice ab nb kb) := Kx.out.cell 7
    have c8 : w8.cell? ⟨x, 8, none⟩ = some (.slice ac nc kc) := Kx.out.cell 8
    have c9 : w8.cell? ⟨x, 9, none⟩ = some (.slice ag ng kg) := Kx.out.cell 9
    have c10 : w8.cell? ⟨x, 10, none⟩ = some (.slice av nv kv) := Kx.out.cell 10
    have c11 : w8.cell? ⟨x, 11, none⟩ = some (.int .i64 d0) := Kx.out.cell 11
    have c12 : w8.cell? ⟨x, 12, none⟩ = some (.int .i64 d1) := Kx.out.cell 12
    have c13 : w8.cell? ⟨x, 13, none⟩ = some (.int .i64 rc) := Kx.out.cell 13
    have c14 : w8.cell? ⟨x, 14, none⟩ = some (.int .i64 lg) := Kx.out.cell 14
    have e0 : w8.cell? ⟨y, 0, none⟩ = some (.int .i64 k') := Ky.out.cell 0
    have e1 : w8.cell? ⟨y, 1, none⟩ = some (.int .i64 f') := Ky.out.cell 1
    have e2 : w8.cell? ⟨y, 2, none⟩ = some (.int .i64 s') := Ky.out.cell 2
    have e3 : w8.cell? ⟨y, 3, none⟩ = some (.int .i64 p') := Ky.out.cell 3
    have e4 : w8.cell? ⟨y, 4, none⟩ = some (.int .i64 fl') := Ky.out.cell 4
    have e5 : w8.cell? ⟨y, 5, none⟩ = some (.string mark') := Ky.out.cell 5
    have e6 : w8.cell? ⟨y, 6, none⟩ = some (.slice am' nl' kl') := Ky.out.cell 6
    have e7 : w8.cell? ⟨y, 7, none⟩ = some (.slice ab' nb' kb') := Ky.out.cell 7
    have e8 : w8.cell? ⟨y, 8, none⟩ = some (.slice ac' nc' kc') := Ky.out.cell 8
    have e9 : w8.cell? ⟨y, 9, none⟩ = some (.slice ag' ng' kg') := Ky.out.cell 9
    have e10 : w8.cell? ⟨y, 10, none⟩ = some (.slice av' nv' kv') := Ky.out.cell 10
    have e11 : w8.cell? ⟨y, 11, none⟩ = some (.int .i64 d0') := Ky.out.cell 11
    have e12 : w8.cell? ⟨y, 12, none⟩ = some (.int .i64 d1') := Ky.out.cell 12
    have e13 : w8.cell? ⟨y, 13, none⟩ = some (.int .i64 rc') := Ky.out.cell 13
    have e14 : w8.cell? ⟨y, 14, none⟩ = some (.int .i64 lg') := Ky.out.cell 14
    go_wp2_with fail
    refine (refwsame_any k f s p fl d0 d1 rc lg mark am ab ac ag av nl kl nb kb nc kc ng kg nv kv live bs cl tags view k' f' s' p' fl' d0' d1' rc' lg' mark' am' ab' ac' ag' av' nl' kl' nb' kb' nc' kc' ng' kg' nv' kv' live' bs' cl' tags' view' r hr _ HL.out HL'.out).mono ?_; rintro e w9 ⟨rfl, hB7⟩
    replace Kx := Lib.hid (Kx.out.below hB7 Kx.out.lt)
    replace Ky := Lib.hid (Ky.out.below hB7 Ky.out.lt)
    replace HL := Lib.hid (HL.out.below hB7)
    replace HL' := Lib.hid (HL'.out.below hB7)
    replace HB := Lib.hid (bNext HB.out hB7)
    clear hB7 c0 c1 c2 c3 c4 c5 c6 c7 c8 c9 c10 c11 c12 c13 c14 e0 e1 e2 e3 e4 e5 e6 e7 e8 e9 e10 e11 e12 e13 e14
    have c0 : w9.cell? ⟨x, 0, none⟩ = some (.int .i64 k) := Kx.out.cell 0
    have c1 : w9.cell? ⟨x, 1, none⟩ = some (.int .i64 f) := Kx.out.cell 1
    have c2 : w9.cell? ⟨x, 2, none⟩ = some (.int .i64 s) := Kx.out.cell 2
    have c3 : w9.cell? ⟨x, 3, none⟩ = some (.int .i64 p) := Kx.out.cell 3
    have c4 : w9.cell? ⟨x, 4, none⟩ = some (.int .i64 fl) := Kx.out.cell 4
    have c5 : w9.cell? ⟨x, 5, none⟩ = some (.string mark) := Kx.out.cell 5
    have c6 : w9.cell? ⟨x, 6, none⟩ = some (.slice am nl kl) := Kx.out.cell 6
    have c7 : w9.cell? ⟨x, 7, none⟩ = some (.slice ab nb kb) := Kx.out.cell 7
    have c8 : w9.cell? ⟨x, 8, none⟩ = some (.slice ac nc kc) := Kx.out.cell 8
    have c9 : w9.cell? ⟨x, 9, none⟩ = some (.slice ag ng kg) := Kx.out.cell 9
    have c10 : w9.cell? ⟨x, 10, none⟩ = some (.slice av nv kv) := Kx.out.cell 10
    have c11 : w9.cell? ⟨x, 11, none⟩ = some (.int .i64 d0) := Kx.out.cell 11
    have c12 : w9.cell? ⟨x, 12, none⟩ = some (.int .i64 d1) := Kx.out.cell 12
    have c13 : w9.cell? ⟨x, 13, none⟩ = some (.int .i64 rc) := Kx.out.cell 13
    have c14 : w9.cell? ⟨x, 14, none⟩ = some (.int .i64 lg) := Kx.out.cell 14
    have e0 : w9.cell? ⟨y, 0, none⟩ = some (.int .i64 k') := Ky.out.cell 0
    have e1 : w9.cell? ⟨y, 1, none⟩ = some (.int .i64 f') := Ky.out.cell 1
    have e2 : w9.cell? ⟨y, 2, none⟩ = some (.int .i64 s') := Ky.out.cell 2
    have e3 : w9.cell? ⟨y, 3, none⟩ = some (.int .i64 p') := Ky.out.cell 3
    have e4 : w9.cell? ⟨y, 4, none⟩ = some (.int .i64 fl') := Ky.out.cell 4
    have e5 : w9.cell? ⟨y, 5, none⟩ = some (.string mark') := Ky.out.cell 5
    have e6 : w9.cell? ⟨y, 6, none⟩ = some (.slice am' nl' kl') := Ky.out.cell 6
    have e7 : w9.cell? ⟨y, 7, none⟩ = some (.slice ab' nb' kb') := Ky.out.cell 7
    have e8 : w9.cell? ⟨y, 8, none⟩ = some (.slice ac' nc' kc') := Ky.out.cell 8
    have e9 : w9.cell? ⟨y, 9, none⟩ = some (.slice ag' ng' kg') := Ky.out.cell 9
    have e10 : w9.cell? ⟨y, 10, none⟩ = some (.slice av' nv' kv') := Ky.out.cell 10
    have e11 : w9.cell? ⟨y, 11, none⟩ = some (.int .i64 d0') := Ky.out.cell 11
    have e12 : w9.cell? ⟨y, 12, none⟩ = some (.int .i64 d1') := Ky.out.cell 12
    have e13 : w9.cell? ⟨y, 13, none⟩ = some (.int .i64 rc') := Ky.out.cell 13
    have e14 : w9.cell? ⟨y, 14, none⟩ = some (.int .i64 lg') := Ky.out.cell 14
    go_wp2_with fail
    refine (wsame_any k f s p fl d0 d1 rc lg mark am ab ac ag av nl kl nb kb nc kc ng kg nv kv live bs cl tags view k' f' s' p' fl' d0' d1' rc' lg' mark' am' ab' ac' ag' av' nl' kl' nb' kb' nc' kc' ng' kg' nv' kv' live' bs' cl' tags' view' r hr _ HL.out HL'.out).mono ?_; rintro e wd ⟨rfl, hB7⟩
    replace Kx := Lib.hid (Kx.out.below hB7 Kx.out.lt)
    replace HL := Lib.hid (HL.out.below hB7)
    replace HB := Lib.hid (bNext HB.out hB7)
    clear hB7 c0 c1 c2 c3 c4 c5 c6 c7 c8 c9 c10 c11 c12 c13 c14 e0 e1 e2 e3 e4 e5 e6 e7 e8 e9 e10 e11 e12 e13 e14 Ky
    have c0 : wd.cell? ⟨x, 0, none⟩ = some (.int .i64 k) := Kx.out.cell 0
    have c1 : wd.cell? ⟨x, 1, none⟩ = some (.int .i64 f) := Kx.out.cell 1
    have c2 : wd.cell? ⟨x, 2, none⟩ = some (.int .i64 s) := Kx.out.cell 2
    have c3 : wd.cell? ⟨x, 3, none⟩ = some (.int .i64 p) := Kx.out.cell 3
    have c4 : wd.cell? ⟨x, 4, none⟩ = some (.int .i64 fl) := Kx.out.cell 4
    have c5 : wd.cell? ⟨x, 5, none⟩ = some (.string mark) := Kx.out.cell 5
    have c6 : wd.cell? ⟨x, 6, none⟩ = some (.slice am nl kl) := Kx.out.cell 6
    have c7 : wd.cell? ⟨x, 7, none⟩ = some (.slice ab nb kb) := Kx.out.cell 7
    have c8 : wd.cell? ⟨x, 8, none⟩ = some (.slice ac nc kc) := Kx.out.cell 8
    have c9 : wd.cell? ⟨x, 9, none⟩ = some (.slice ag ng kg) := Kx.out.cell 9
    have c10 : wd.cell? ⟨x, 10, none⟩ = some (.slice av nv kv) := Kx.out.cell 10
    have c11 : wd.cell? ⟨x, 11, none⟩ = some (.int .i64 d0) := Kx.out.cell 11
    have c12 : wd.cell? ⟨x, 12, none⟩ = some (.int .i64 d1) := Kx.out.cell 12
    have c13 : wd.cell? ⟨x, 13, none⟩ = some (.int .i64 rc) := Kx.out.cell 13
    have c14 : wd.cell? ⟨x, 14, none⟩ = some (.int .i64 lg) := Kx.out.cell 14
    go_wp2_with fail
    refine (wsame_any k f s p fl d0 d1 rc lg mark am ab ac ag av nl kl nb kb nc kc ng kg nv kv live bs cl tags view k f s p fl d0 d1 rc lg mark am ab ac ag av nl kl nb kb nc kc ng kg nv kv live bs cl tags view true (show true = true ↔ _ from ⟨fun _ => rfl, fun _ => rfl⟩) _ HL.out HL.out).mono ?_; rintro e we ⟨rfl, hB7⟩
    replace HB := Lib.hid (bNext HB.out hB7)
    clear hB7 c0 c1 c2 c3 c4 c5 c6 c7 c8 c9 c10 c11 c12 c13 c14 Kx HL'
    have FIN : Hid (E = 0 → E' = 0 → (T.toList == T'.toList) = r) := by
      intro h1 h2
      obtain ⟨n0, n1, n2, n3, n4⟩ := HSM.out.lens
      obtain ⟨m0, m1, m2, m3, m4⟩ := HSM'.out.lens
      have e1 : (WL.mk k f s p fl d0 d1 rc lg mark live bs cl tags view).May ∧ T = ofL (WL.mk k f s p fl d0 d1 rc lg mark live bs cl tags view).bytes := by
        rcases HT.out with h | h | h
        · have := h.2.2; omega
        · have := h.2.2.2; omega
        · exact ⟨h.1, h.2.2.1⟩
      have e2 : (WL.mk k' f' s' p' fl' d0' d1' rc' lg' mark' live' bs' cl' tags' view').May ∧ T' = ofL (WL.mk k' f' s' p' fl' d0' d1' rc' lg' mark' live' bs' cl' tags' view').bytes := by
        rcases HT'.out with h | h | h
        · have := h.2.2; omega
        · have := h.2.2.2; omega
        · exact ⟨h.1, h.2.2.1⟩
      have u1 := e1.1.ups (by simp only; omega) (by simp only; omega) (by simp only; omega)
      have u2 := e2.1.ups (by simp only; omega) (by simp only; omega) (by simp only; omega)
      rw [beqG, e1.2, e2.2]
      cases r
      · refine decide_eq_false fun e => hrf.out rfl ?_
        have := congrArg bl e
        rw [bl_ofL, bl_ofL] at this
        exact WL.bytes_one _ _ u1 u2 this
      · exact decide_eq_true (by rw [hrt.out rfl])
    have HE : Hid (E = 0 ∨ E = 1 ∨ E = 11) := by
      rcases HT.out with h | h | h
      · exact .inr (.inl h.2.2)
      · exact .inr (.inr h.2.2.2)
      · exact .inl h.2.2.2
    have HE' : Hid (E' = 0 ∨ E' = 1 ∨ E' = 11) := by
      rcases HT'.out with h | h | h
      · exact .inr (.inl h.2.2)
      · exact .inr (.inr h.2.2.2)
      · exact .inl h.2.2.2
    clear HT HT' HSM HSM' HL hr hrf hrt
    as_aux_lemma =>
      rcases HE.out with rfl | rfl | rfl
      · rcases HE'.out with rfl | rfl | rfl
        · have hfin := FIN.out rfl rfl
          go_wp2_with fail
          go_ret
          exact ⟨by simp, HB.out⟩
        · go_wp2_with fail
          go_ret
          exact ⟨rfl, HB.out⟩
        · go_wp2_with fail
          go_ret
          exact ⟨rfl, HB.out⟩
      · go_wp2_with fail
        go_ret
        exact ⟨rfl, HB.out⟩
      · go_wp2_with fail
        go_ret
        exact ⟨rfl, HB.out⟩

namespace LWireOne
open Go.ChangeShapes Go.WideShapes Go.ChangeAt
open Go.ChangeMaps (open_string shut_string)

set_option maxRecDepth 100000 in
theorem contract (H : Type) (enc : TypeId × Value → H) (W : World) (base : Nat) (args : Array Value) (ds gs : List (DataW H)) (before : List MemPlace)
    (hval : ∀ (j : Nat) t v, Try.f5.params[j]? = some t → args[j]? = some v → Value.okWide Try.prog W .any base t v)
    (hW : DataW.Whole enc Try.prog Try.f5.params.toList Rows.wireOneSpec.vars false W args.toList ds gs before)
    (_hsz : (DataW.weightsEach Try.prog (Try.f5.params.toList ++ (OpenSpec.ofChange Rows.wireOneSpec).bare.plain.varTypes Try.prog) (ds ++ gs)).all (fun x => decide (x ≤ reachBytes)) = true) :
    Calls Try.prog 5 args W fun e W' => ∃ v, e = .returned v ∧ Rows.wireOneSpec.post enc Try.prog Try.f5 false true false false W args v W' := by
  have hW' := hW
  obtain ⟨p, q, hA0, hV, rfl, hfz, hnd⟩ := hW
  have hA : DataW.TrodAll enc Try.prog W 0 (fun _ => true) true Try.f5.params.toList args.toList ds p := hA0
  rw [Try.params5] at hA hval
  obtain ⟨v0, vs0, d0, ds0, p0, q0, hargs, rfl, rfl, h0, r0⟩ := trodAll_cons hA
  obtain ⟨v1, vs1, d1, ds1, p1, q1, rfl, rfl, rfl, h1, r1⟩ := trodAll_cons r0
  obtain ⟨v2, vs2, d2, ds2, p2, q2, rfl, rfl, rfl, h2, r2⟩ := trodAll_cons r1
  obtain ⟨rfl, rfl, rfl⟩ := trodAll_nil r2
  obtain rfl : args = #[v0, v1, v2] := by cases args; simp_all
  obtain ⟨rfl, rfl⟩ := trodVars_none hV
  obtain ⟨k0, f0, s0, p0, fl0, da0, db0, rc0, lg0, mk0, am0, ab0, ac0, ag0, av0, nl0, kl0, nb0, kb0, nc0, kc0, ng0, kg0, nv0, kv0, lv0, bs0, cl0, tg0, vw0, rfl, ⟨la0, lb0, lc0, sa0⟩, ⟨ma0, mb0, mc0, sb0⟩, ⟨na0, nb'0, nc'0, sc0⟩, ⟨oa0, ob0, oc0, sd0⟩, ⟨pa0, pb0, pc0, se0⟩⟩ := open_wire (hval 0 33 v0 rfl rfl) h0
  obtain ⟨k1, f1, s1, p1, fl1, da1, db1, rc1, lg1, mk1, am1, ab1, ac1, ag1, av1, nl1, kl1, nb1, kb1, nc1, kc1, ng1, kg1, nv1, kv1, lv1, bs1, cl1, tg1, vw1, rfl, ⟨la1, lb1, lc1, sa1⟩, ⟨ma1, mb1, mc1, sb1⟩, ⟨na1, nb'1, nc'1, sc1⟩, ⟨oa1, ob1, oc1, sd1⟩, ⟨pa1, pb1, pc1, se1⟩⟩ := open_wire (hval 1 33 v1 rfl rfl) h1
  obtain ⟨x2, rfl, rfl, rfl⟩ := open_bool Try.underlying4 (hval 2 4 v2 rfl rfl) h2
  clear hA0
  refine (wireOne_walk k0 f0 s0 p0 fl0 da0 db0 rc0 lg0 mk0 am0 ab0 ac0 ag0 av0 nl0 kl0 nb0 kb0 nc0 kc0 ng0 kg0 nv0 kv0 lv0 bs0 cl0 tg0 vw0 la0 ⟨ma0, mb0⟩ ⟨na0, nb'0⟩ oa0 ⟨pa0, pb0⟩ k1 f1 s1 p1 fl1 da1 db1 rc1 lg1 mk1 am1 ab1 ac1 ag1 av1 nl1 kl1 nb1 kb1 nc1 kc1 ng1 kg1 nv1 kv1 lv1 bs1 cl1 tg1 vw1 la1 ⟨ma1, mb1⟩ ⟨na1, nb'1⟩ oa1 ⟨pa1, pb1⟩ x2 W sa0 sb0 sc0 sd0 se0 sa1 sb1 sc1 sd1 se1).mono fun e W' ⟨he, hb⟩ => ?_
  subst he
  exact ⟨_, rfl, law_post laidOut Try.underlying4 rfl (by kernel_rfl) rfl rfl rfl rfl hW' hb⟩

theorem reads (os : Os) {H : Type} (enc : TypeId × Value → H) : ∃ places, DataW.whole enc Try.prog ((World.holding Try.prog os ⟨#[], #[], []⟩).forCall (fun _ _ => 0) ⟨#[], #[.agg #[.int .i64 0, .int .i64 0, .int .i64 0, .int .i64 0, .int .i64 0, .string .empty, .slice none 0 0, .slice none 0 0, .slice none 0 0, .slice none 0 0, .slice none 0 0, .int .i64 0, .int .i64 0, .int .i64 0, .int .i64 0], .agg #[.int .i64 0, .int .i64 0, .int .i64 0, .int .i64 0, .int .i64 0, .string .empty, .slice none 0 0, .slice none 0 0, .slice none 0 0, .slice none 0 0, .slice none 0 0, .int .i64 0, .int .i64 0, .int .i64 0, .int .i64 0], .bool false], []⟩).memory Try.f5.params.toList Rows.wireOneSpec.vars false (#[.agg #[.int .i64 0, .int .i64 0, .int .i64 0, .int .i64 0, .int .i64 0, .string .empty, .slice none 0 0, .slice none 0 0, .slice none 0 0, .slice none 0 0, .slice none 0 0, .int .i64 0, .int .i64 0, .int .i64 0, .int .i64 0], .agg #[.int .i64 0, .int .i64 0, .int .i64 0, .int .i64 0, .int .i64 0, .string .empty, .slice none 0 0, .slice none 0 0, .slice none 0 0, .slice none 0 0, .slice none 0 0, .int .i64 0, .int .i64 0, .int .i64 0, .int .i64 0], .bool false] : Array Value).toList 8 = some ([.agg [.lit (.int .i64 0), .lit (.int .i64 0), .lit (.int .i64 0), .lit (.int .i64 0), .lit (.int .i64 0), .lit (.string []), .agg [.nil, .agg [.nil, .nil]], .nil, .nil, .agg [.lit (.int .i64 0), .lit (.int .i64 0)], .lit (.int .i64 0), .lit (.int .i64 0)], .agg [.lit (.int .i64 0), .lit (.int .i64 0), .lit (.int .i64 0), .lit (.int .i64 0), .lit (.int .i64 0), .lit (.string []), .agg [.nil, .agg [.nil, .nil]], .nil, .nil, .agg [.lit (.int .i64 0), .lit (.int .i64 0)], .lit (.int .i64 0), .lit (.int .i64 0)], .lit (.bool false)], [], places) :=
  ⟨[], by kernel_rfl⟩
theorem laid_met (os : Os) : laidMet Try.prog Rows.wireOneRow.laid ((World.holding Try.prog os ⟨#[], #[], []⟩).forCall (fun _ _ => 0) ⟨#[], #[.agg #[.int .i64 0, .int .i64 0, .int .i64 0, .int .i64 0, .int .i64 0, .string .empty, .slice none 0 0, .slice none 0 0, .slice none 0 0, .slice none 0 0, .slice none 0 0, .int .i64 0, .int .i64 0, .int .i64 0, .int .i64 0], .agg #[.int .i64 0, .int .i64 0, .int .i64 0, .int .i64 0, .int .i64 0, .string .empty, .slice none 0 0, .slice none 0 0, .slice none 0 0, .slice none 0 0, .slice none 0 0, .int .i64 0, .int .i64 0, .int .i64 0, .int .i64 0], .bool false], []⟩).memory :=
  laidMet_of_run' 8 (by kernel_rfl) (by kernel_rfl)

set_option maxRecDepth 100000 in
theorem lifted (os : Os) (started : os.Started) (H : Type) (enc : TypeId × Value → H) (F : Stop.Interp) :
    ReturnsInHanded {} Try.checked os 5 .any ((OpenSpec.ofChange Rows.wireOneSpec).preRow enc Try.prog Try.f5 Rows.wireOneRow.domain false Rows.wireOneRow.laid) (((OpenSpec.ofChange Rows.wireOneSpec).at F).post enc Try.prog Try.f5 false true false false) := by
  obtain ⟨places, hx⟩ := reads os enc
  refine returnsInHanded_of_row (C := Try.checked) (s := OpenSpec.ofChange Rows.wireOneSpec) own started (by kernel_rfl) Try.func5
    (witness_row_at (enc := enc) (C := Try.checked) false (World.holding Try.prog os ⟨#[], #[], []⟩) #[.agg #[.int .i64 0, .int .i64 0, .int .i64 0, .int .i64 0, .int .i64 0, .string .empty, .slice none 0 0, .slice none 0 0, .slice none 0 0, .slice none 0 0, .slice none 0 0, .int .i64 0, .int .i64 0, .int .i64 0, .int .i64 0], .agg #[.int .i64 0, .int .i64 0, .int .i64 0, .int .i64 0, .int .i64 0, .string .empty, .slice none 0 0, .slice none 0 0, .slice none 0 0, .slice none 0 0, .slice none 0 0, .int .i64 0, .int .i64 0, .int .i64 0, .int .i64 0], .bool false] rfl (by kernel_rfl) (by kernel_rfl) (by kernel_rfl)
      (OpenSpec.preRow_of_cond 8 hx (by kernel_rfl) (fun k hk => by cases hk) (by kernel_rfl) (laid_met os))) ?_
  intro W base args ds gs before hval hW _ _ hsz hL _ _
  exact contract H enc W base args ds gs before hval hW hsz

theorem said : Rows.WireOneSaid :=
  OpenClaim.holds_of_cond 5 Try.f5 rfl rfl rfl rfl rfl rfl rfl ⟨rfl, rfl, rfl, rfl, rfl⟩ rfl rfl rfl rfl rfl (by kernel_rfl) Try.func5 (by kernel_rfl)
    (of_decide_eq_true (by kernel_rfl)) (by unfold Func.isWrapper; first | (rw [if_pos (by decide +kernel)]; kernel_rfl) | (rw [if_neg (by decide +kernel)]; exact ⟨rfl, rfl⟩))
    (fun os started H enc _ F => by rw [OpenClaim.pre_eq_preRow]; exact lifted os started H enc F)
end LWireOne
end Go.Proofs.Ytfpjdmplepepjaa
