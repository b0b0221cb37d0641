/- WireBack: for anything that is said, any place and any byte the law returns true. -/
import Derived.Test.YtfpjdmplepepjaaJ8
import Derived.Test.YtfpjdmplepepjaaJ1
import Derived.Outline
import Derived.Deep.CutBlock
import Derived.Deep.DeepCutAuto
namespace Go.Proofs.Ytfpjdmplepepjaa
open Go.RowKit

set_option maxRecDepth 100000 in
set_option maxHeartbeats 8000000 in
theorem wireBack_walk (k f s p fl d0 d1 rc lg : Int) (mark : ByteArray) (am ab ac ag av : Option Addr) (nl kl nb kb nc kc ng kg nv kv : Nat) (live : List Msg5) (bs cl : List Dot2) (tags : List Tag2) (view : List Peer3) (hl0 : Hid (live.length = nl)) (hl1 : Hid (bs.length = nb ∧ nb ≤ kb)) (hl2 : Hid (cl.length = nc ∧ nc ≤ kc)) (hl3 : Hid (tags.length = ng)) (hl4 : Hid (view.length = nv ∧ nv ≤ kv)) (at_ : Int) (c : Int) (_k1 : (Lit.int .i64 at_).wf = true) (k2 : (Lit.int .u8 c).wf = true) (W : World) (g0 : SlE eMsg 5 W am live) (g1 : SlE eDot 2 W ab bs) (g2 : SlE eDot 2 W ac cl) (g3 : SlE eTag 2 W ag tags) (g4 : SlE ePeer 3 W av view) :
    Calls Try.prog 4 #[.agg #[.int .i64 k, .int .i64 f, .int .i64 s, .int .i64 p, .int .i64 fl, .string mark, .slice am nl kl, .slice ab nb kb, .slice ac nc kc, .slice ag ng kg, .slice av nv kv, .int .i64 d0, .int .i64 d1, .int .i64 rc, .int .i64 lg], .int .i64 at_, .int .u8 c] W fun e W' => e = .returned (.bool true) ∧ Below W.heap.size W W' := by
  have hc8 : 0 ≤ c ∧ c ≤ 255 := Go.bounds_u8 k2
  have HC8 := Lib.hid hc8
  clear _k1 k2 hc8
  have G0 := Lib.hid g0
  have G1 := Lib.hid g1
  have G2 := Lib.hid g2
  have G3 := Lib.hid g3
  have G4 := Lib.hid g4
  clear g0 g1 g2 g3 g4
  obtain ⟨w0, hw0⟩ := nm (W.alloc (.cells #[.int .i64 k, .int .i64 f, .int .i64 s, .int .i64 p, .int .i64 fl, .string mark, .slice am nl kl, .slice ab nb kb, .slice ac nc kc, .slice ag ng kg, .slice av nv kv, .int .i64 d0, .int .i64 d1, .int .i64 rc, .int .i64 lg] 33))
  obtain ⟨x, hx⟩ := nm W.heap.size
  have Kx : Hid (Blk w0 x #[.int .i64 k, .int .i64 f, .int .i64 s, .int .i64 p, .int .i64 fl, .string mark, .slice am nl kl, .slice ab nb kb, .slice ac nc kc, .slice ag ng kg, .slice av nv kv, .int .i64 d0, .int .i64 d1, .int .i64 rc, .int .i64 lg] 33) := blkN hw0.out hx.out
  have HB0 : Hid (Below W.heap.size W w0) := by rw [hw0.out]; exact bNew (Below.refl _ _) _
  have HXW : Hid (W.heap.size ≤ x) := Nat.le_of_eq hx.out.symm
  go_enter Try.func4, Try.ntmps4
  go_upto_region 1 with fail
  rw [← hw0.out, ← hx.out]
  go_wp2_with fail
  refine (awake_any _).mono ?_; rintro e w1 ⟨rfl, hB1⟩
  replace Kx := Lib.hid (Kx.out.below hB1 Kx.out.lt)
  have HB1 : Hid (Below W.heap.size W w1) := bNext HB0.out hB1
  clear hB1 HB0 hw0
  have c0 : w1.cell? ⟨x, 0, none⟩ = some (.int .i64 k) := Kx.out.cell 0
  have c1 : w1.cell? ⟨x, 1, none⟩ = some (.int .i64 f) := Kx.out.cell 1
  have c2 : w1.cell? ⟨x, 2, none⟩ = some (.int .i64 s) := Kx.out.cell 2
  have c3 : w1.cell? ⟨x, 3, none⟩ = some (.int .i64 p) := Kx.out.cell 3
  have c4 : w1.cell? ⟨x, 4, none⟩ = some (.int .i64 fl) := Kx.out.cell 4
  have c5 : w1.cell? ⟨x, 5, none⟩ = some (.string mark) := Kx.out.cell 5
  have c6 : w1.cell? ⟨x, 6, none⟩ = some (.slice am nl kl) := Kx.out.cell 6
  have c7 : w1.cell? ⟨x, 7, none⟩ = some (.slice ab nb kb) := Kx.out.cell 7
  have c8 : w1.cell? ⟨x, 8, none⟩ = some (.slice ac nc kc) := Kx.out.cell 8
  have c9 : w1.cell? ⟨x, 9, none⟩ = some (.slice ag ng kg) := Kx.out.cell 9
  have c10 : w1.cell? ⟨x, 10, none⟩ = some (.slice av nv kv) := Kx.out.cell 10
  have c11 : w1.cell? ⟨x, 11, none⟩ = some (.int .i64 d0) := Kx.out.cell 11
  have c12 : w1.cell? ⟨x, 12, none⟩ = some (.int .i64 d1) := Kx.out.cell 12
  have c13 : w1.cell? ⟨x, 13, none⟩ = some (.int .i64 rc) := Kx.out.cell 13
  have c14 : w1.cell? ⟨x, 14, none⟩ = some (.int .i64 lg) := Kx.out.cell 14
  go_wp2_with fail
  refine (small_any k f s p fl d0 d1 rc lg mark am ab ac ag av nl kl nb kb nc kc ng kg nv kv live bs cl tags view hl0 hl1 hl2 hl3 hl4 _ (G0.out.below HB1.out) (G1.out.below HB1.out) (G2.out.below HB1.out) (G3.out.below HB1.out) (G4.out.below HB1.out)).mono ?_
  rintro e w2 ⟨mk, am2, ag2, nl2, kl2, nb2, nc2, ng2, kg2, nv2, live2, tags2, rfl, hln, hs0, hs3, hsm, hB2⟩
  have HLX : Hid (x < w1.heap.size) := Kx.out.lt
  replace Kx := Lib.hid (Kx.out.below hB2 Kx.out.lt)
  have HB2 : Hid (Below W.heap.size W w2) := bNext HB1.out hB2
  have HO : Hid (HoldsW x x x (w2.setRow x #[.int .i64 k, .int .i64 f, .int .i64 s, .int .i64 p, .int .i64 fl, .string mk, .slice am2 nl2 kl2, .slice ab nb2 kb, .slice ac nc2 kc, .slice ag2 ng2 kg2, .slice av nv2 kv, .int .i64 d0, .int .i64 d1, .int .i64 rc, .int .i64 lg])) := HoldsW.laid HB2.out HXW.out HXW.out HLX.out HLX.out (.inl rfl) Kx.out G1.out G2.out G4.out hln hs0 hs3 hsm
  clear hln hs0 hs3 hsm hB2 c0 c1 c2 c3 c4 c5 c6 c7 c8 c9 c10 c11 c12 c13 c14 HLX HB1
  have hone : (#[.int .i64 k, .int .i64 f, .int .i64 s, .int .i64 p, .int .i64 fl, .string mk, .slice am2 nl2 kl2, .slice ab nb2 kb, .slice ac nc2 kc, .slice ag2 ng2 kg2, .slice av nv2 kv, .int .i64 d0, .int .i64 d1, .int .i64 rc, .int .i64 lg] : Array Value).all (·.oneCell') = true := by simp [Value.oneCell']
  go_upto_region 3 with (refine wpList_store_row rfl 33 _ _ rfl x #[.int .i64 k, .int .i64 f, .int .i64 s, .int .i64 p, .int .i64 fl, .string mk, .slice am2 nl2 kl2, .slice ab nb2 kb, .slice ac nc2 kc, .slice ag2 ng2 kg2, .slice av nv2 kv, .int .i64 d0, .int .i64 d1, .int .i64 rc, .int .i64 lg] rfl rfl 33 #[.int .i64 k, .int .i64 f, .int .i64 s, .int .i64 p, .int .i64 fl, .string mark, .slice am nl kl, .slice ab nb kb, .slice ac nc kc, .slice ag ng kg, .slice av nv kv, .int .i64 d0, .int .i64 d1, .int .i64 rc, .int .i64 lg] Kx.out infoWire rfl hone ?_)
  obtain ⟨w3, hw3⟩ := nm (w2.setRow x #[.int .i64 k, .int .i64 f, .int .i64 s, .int .i64 p, .int .i64 fl, .string mk, .slice am2 nl2 kl2, .slice ab nb2 kb, .slice ac nc2 kc, .slice ag2 ng2 kg2, .slice av nv2 kv, .int .i64 d0, .int .i64 d1, .int .i64 rc, .int .i64 lg])
  rw [← hw3.out]
  rw [← hw3.out] at HO
  have HB3 : Hid (Below W.heap.size W w3) := by rw [hw3.out]; exact below_setRow HB2.out HXW.out _
  clear hone HB2 hw3 Kx G0 G1 G2 G3 G4 hl0 hl1 hl2 hl3 hl4
  obtain ⟨k, f, s, p, fl, d0, d1, rc, lg, mark, am, ab, ac, ag, av, nl, kl, nb, kb, nc, kc, ng, kg, nv, kv, live, bs, cl, tags, view, hk, hli, _, hsm⟩ := HO.out
  clear HO
  have Kx := Lib.hid hk
  have HL := Lib.hid hli
  have HSM := Lib.hid hsm
  have HB := HB3
  clear hk hli hsm HB3
  obtain ⟨T, E, hT⟩ := said_is (WL.mk k f s p fl d0 d1 rc lg mark live bs cl tags view)
  have HT := Lib.hid hT
  clear hT
  have c0 : w3.cell? ⟨x, 0, none⟩ = some (.int .i64 k) := Kx.out.cell 0
  have c1 : w3.cell? ⟨x, 1, none⟩ = some (.int .i64 f) := Kx.out.cell 1
  have c2 : w3.cell? ⟨x, 2, none⟩ = some (.int .i64 s) := Kx.out.cell 2
  have c3 : w3.cell? ⟨x, 3, none⟩ = some (.int .i64 p) := Kx.out.cell 3
  have c4 : w3.cell? ⟨x, 4, none⟩ = some (.int .i64 fl) := Kx.out.cell 4
  have c5 : w3.cell? ⟨x, 5, none⟩ = some (.string mark) := Kx.out.cell 5
  have c6 : w3.cell? ⟨x, 6, none⟩ = some (.slice am nl kl) := Kx.out.cell 6
  have c7 : w3.cell? ⟨x, 7, none⟩ = some (.slice ab nb kb) := Kx.out.cell 7
  have c8 : w3.cell? ⟨x, 8, none⟩ = some (.slice ac nc kc) := Kx.out.cell 8
  have c9 : w3.cell? ⟨x, 9, none⟩ = some (.slice ag ng kg) := Kx.out.cell 9
  have c10 : w3.cell? ⟨x, 10, none⟩ = some (.slice av nv kv) := Kx.out.cell 10
  have c11 : w3.cell? ⟨x, 11, none⟩ = some (.int .i64 d0) := Kx.out.cell 11
  have c12 : w3.cell? ⟨x, 12, none⟩ = some (.int .i64 d1) := Kx.out.cell 12
  have c13 : w3.cell? ⟨x, 13, none⟩ = some (.int .i64 rc) := Kx.out.cell 13
  have c14 : w3.cell? ⟨x, 14, none⟩ = some (.int .i64 lg) := Kx.out.cell 14
  go_wp2_with fail
  refine (wbytes_any k f s p fl d0 d1 rc lg mark am ab ac ag av nl kl nb kb nc kc ng kg nv kv live bs cl tags view T E HT _ HL.out).mono ?_; rintro e w4 ⟨rfl, hB7⟩
  replace Kx := Lib.hid (Kx.out.below hB7 Kx.out.lt)
  replace HL := Lib.hid (HL.out.below hB7)
  replace HB := Lib.hid (bNext HB.out hB7)
  clear hB7 c0 c1 c2 c3 c4 c5 c6 c7 c8 c9 c10 c11 c12 c13 c14
  rcases HT.out.small HSM.out with ⟨rfl, rfl⟩ | ⟨rfl, hsaid⟩
  · clear HT
    go_wp2_with fail
    go_ret
    exact ⟨rfl, HB.out⟩
  have HSAID := Lib.hid hsaid
  have hT1 : 1 ≤ T.size := hsaid.pos
  have hT2 : T.size ≤ 8000 := hsaid.2.1
  have hTe : ((T.size : Int) == 0) = false := by rw [beq_eq_false_iff_ne]; omega
  clear hsaid HT HSM
  obtain ⟨K, hK⟩ := nm (at_.tmod (T.size : Nat)).natAbs
  have hKlt : K < T.size := by
    rw [hK.out]
    have := Int.tmod_lt_of_pos at_ (b := ((T.size : Nat) : Int)) (by omega)
    have := Int.lt_tmod_of_pos at_ (b := ((T.size : Nat) : Int)) (by omega)
    omega
  obtain ⟨R, hR⟩ := nm (at_.tmod (T.size : Nat))
  have hRK : (R < 0 ∧ -R = (K : Int)) ∨ (¬ R < 0 ∧ R = (K : Int)) := by
    rw [hK.out, ← hR.out]; omega
  have HRK := Lib.hid hRK
  have hRb : -8000 < R ∧ R < 8000 := by omega
  have H1 : Hid (∀ m' E', Heard T m' E' → E' = 0 ∧ m' = WL.mk k f s p fl d0 d1 rc lg mark live bs cl tags view) := by
    show ∀ m' E', _
    intro m' E' h
    rcases h with ⟨e, h⟩ | ⟨_, _, h⟩
    · exact ⟨e, h.one HSAID.out⟩
    · exact absurd HSAID.out (h _)
  obtain ⟨T2, hT2'⟩ := nm (T.extract 0 K)
  have H2 : Hid (∀ m' E', Heard T2 m' E' → E' = 10) := by
    show ∀ m' E', _
    intro m' E' h
    rcases h with ⟨_, h⟩ | ⟨e, _, _⟩
    · exfalso
      have e : bl T = bl T2 ++ (bl T).drop K := by rw [hT2'.out, bl_extract, List.drop_zero, Nat.sub_zero, List.take_append_drop]
      have := HSAID.out.cut h e
      have h0 : ((bl T).drop K).length = 0 := by rw [this]; rfl
      rw [List.length_drop, bl_length] at h0
      omega
    · exact e
  obtain ⟨u, hu⟩ := nm (UInt8.ofNat c.toNat)
  have hcu : Hid (c = (u.toNat : Int)) := by
    show _ = _
    have := HC8.out
    rw [hu.out, UInt8.toNat_ofNat']
    omega
  obtain ⟨T3, hT3'⟩ := nm (T ++ ofL [u])
  have H3 : Hid (∀ m' E', Heard T3 m' E' → E' = 10) := by
    show ∀ m' E', _
    intro m' E' h
    rcases h with ⟨_, h⟩ | ⟨e, _, _⟩
    · exfalso
      have e : bl T3 = bl T ++ [u] := by rw [hT3'.out, bl_append, bl_ofL]
      have := h.cut HSAID.out e
      cases this
    · exact e
  have hs2 : T2.size ≤ 1000000 := by rw [hT2'.out, ByteArray.size_extract]; omega
  have hs3 : T3.size ≤ 1000000 := by rw [hT3'.out, ByteArray.size_append, ofL_size]; simp; omega
  clear HSAID
  go_wp2_with fail
  refine (wread_any T _ (by omega)).mono ?_; rintro e w5 ⟨k', f', s', p', fl', d0', d1', rc', lg', mark', am', ab', ac', ag', av', nl', kl', nb', kb', nc', kc', ng', kg', nv', kv', live', bs', cl', tags', view', E', rfl, hli', _, hh, hB5⟩
  obtain ⟨rfl, hm⟩ := H1.out _ _ hh
  have HM := Lib.hid hm
  have HL' := Lib.hid hli'
  replace Kx := Lib.hid (Kx.out.below hB5 Kx.out.lt)
  replace HL := Lib.hid (HL.out.below hB5)
  replace HB := Lib.hid (bNext HB.out hB5)
  clear hli' hh hB5 hm H1
  obtain ⟨y, hy⟩ := nm w5.heap.size
  obtain ⟨w6, hw6⟩ := nm (w5.alloc (.cells #[.int .i64 k', .int .i64 f', .int .i64 s', .int .i64 p', .int .i64 fl', .string mark', .slice am' nl' kl', .slice ab' nb' kb', .slice ac' nc' kc', .slice ag' ng' kg', .slice av' nv' kv', .int .i64 d0', .int .i64 d1', .int .i64 rc', .int .i64 lg'] 33))
  have Ky : Hid (Blk w6 y #[.int .i64 k', .int .i64 f', .int .i64 s', .int .i64 p', .int .i64 fl', .string mark', .slice am' nl' kl', .slice ab' nb' kb', .slice ac' nc' kc', .slice ag' ng' kg', .slice av' nv' kv', .int .i64 d0', .int .i64 d1', .int .i64 rc', .int .i64 lg'] 33) := blkN hw6.out hy.out
  replace Kx : Hid (Blk w6 x #[.int .i64 k, .int .i64 f, .int .i64 s, .int .i64 p, .int .i64 fl, .string mark, .slice am nl kl, .slice ab nb kb, .slice ac nc kc, .slice ag ng kg, .slice av nv kv, .int .i64 d0, .int .i64 d1, .int .i64 rc, .int .i64 lg] 33) := by show Blk _ _ _ _; rw [hw6.out]; exact Kx.out.alloc _
  replace HL : Hid (Lies w6 am ab ac ag av nl nb nc ng nv live bs cl tags view) := by show Lies _ _ _ _ _ _ _ _ _ _ _ _ _ _ _ _; rw [hw6.out]; exact HL.out.below (bOld _)
  replace HL' : Hid (Lies w6 am' ab' ac' ag' av' nl' nb' nc' ng' nv' live' bs' cl' tags' view') := by show Lies _ _ _ _ _ _ _ _ _ _ _ _ _ _ _ _; rw [hw6.out]; exact HL'.out.below (bOld _)
  replace HB : Hid (Below W.heap.size W w6) := by show Below _ _ _; rw [hw6.out]; exact bNew HB.out _
  go_upto_region 9 with fail
  rw [← hw6.out, ← hy.out]
  have c0 : w6.cell? ⟨x, 0, none⟩ = some (.int .i64 k) := Kx.out.cell 0
  have c1 : w6.cell? ⟨x, 1, none⟩ = some (.int .i64 f) := Kx.out.cell 1
  have c2 : w6.cell? ⟨x, 2, none⟩ = some (.int .i64 s) := Kx.out.cell 2
  have c3 : w6.cell? ⟨x, 3, none⟩ = some (.int .i64 p) := Kx.out.cell 3
  have c4 : w6.cell? ⟨x, 4, none⟩ = some (.int .i64 fl) := Kx.out.cell 4
  have c5 : w6.cell? ⟨x, 5, none⟩ = some (.string mark) := Kx.out.cell 5
  have c6 : w6.cell? ⟨x, 6, none⟩ = some (.slice am nl kl) := Kx.out.cell 6
  have c7 : w6.cell? ⟨x, 7, none⟩ = some (.slice ab nb kb) := Kx.out.cell 7
  have c8 : w6.cell? ⟨x, 8, none⟩ = some (.slice ac nc kc) := Kx.out.cell 8
  have c9 : w6.cell? ⟨x, 9, none⟩ = some (.slice ag ng kg) := Kx.out.cell 9
  have c10 : w6.cell? ⟨x, 10, none⟩ = some (.slice av nv kv) := Kx.out.cell 10
  have c11 : w6.cell? ⟨x, 11, none⟩ = some (.int .i64 d0) := Kx.out.cell 11
  have c12 : w6.cell? ⟨x, 12, none⟩ = some (.int .i64 d1) := Kx.out.cell 12
  have c13 : w6.cell? ⟨x, 13, none⟩ = some (.int .i64 rc) := Kx.out.cell 13
  have c14 : w6.cell? ⟨x, 14, none⟩ = some (.int .i64 lg) := Kx.out.cell 14
  have e0 : w6.cell? ⟨y, 0, none⟩ = some (.int .i64 k') := Ky.out.cell 0
  have e1 : w6.cell? ⟨y, 1, none⟩ = some (.int .i64 f') := Ky.out.cell 1
  have e2 : w6.cell? ⟨y, 2, none⟩ = some (.int .i64 s') := Ky.out.cell 2
  have e3 : w6.cell? ⟨y, 3, none⟩ = some (.int .i64 p') := Ky.out.cell 3
  have e4 : w6.cell? ⟨y, 4, none⟩ = some (.int .i64 fl') := Ky.out.cell 4
  have e5 : w6.cell? ⟨y, 5, none⟩ = some (.string mark') := Ky.out.cell 5
  have e6 : w6.cell? ⟨y, 6, none⟩ = some (.slice am' nl' kl') := Ky.out.cell 6
  have e7 : w6.cell? ⟨y, 7, none⟩ = some (.slice ab' nb' kb') := Ky.out.cell 7
  have e8 : w6.cell? ⟨y, 8, none⟩ = some (.slice ac' nc' kc') := Ky.out.cell 8
  have e9 : w6.cell? ⟨y, 9, none⟩ = some (.slice ag' ng' kg') := Ky.out.cell 9
  have e10 : w6.cell? ⟨y, 10, none⟩ = some (.slice av' nv' kv') := Ky.out.cell 10
  have e11 : w6.cell? ⟨y, 11, none⟩ = some (.int .i64 d0') := Ky.out.cell 11
  have e12 : w6.cell? ⟨y, 12, none⟩ = some (.int .i64 d1') := Ky.out.cell 12
  have e13 : w6.cell? ⟨y, 13, none⟩ = some (.int .i64 rc') := Ky.out.cell 13
  have e14 : w6.cell? ⟨y, 14, none⟩ = some (.int .i64 lg') := Ky.out.cell 14
  go_wp2_with fail
  refine (refwsame_any k' f' s' p' fl' d0' d1' rc' lg' mark' am' ab' ac' ag' av' nl' kl' nb' kb' nc' kc' ng' kg' nv' kv' live' bs' cl' tags' view' k f s p fl d0 d1 rc lg mark am ab ac ag av nl kl nb kb nc kc ng kg nv kv live bs cl tags view true (itT HM) _ HL'.out HL.out).mono ?_; rintro e w7 ⟨rfl, hB7⟩
  replace HB := Lib.hid (bNext HB.out hB7)
  clear hB7 c0 c1 c2 c3 c4 c5 c6 c7 c8 c9 c10 c11 c12 c13 c14 e0 e1 e2 e3 e4 e5 e6 e7 e8 e9 e10 e11 e12 e13 e14 Kx Ky HL HL' HM hw6 hy
  go_upto_region 10 with fail
  go_cut [13] (fun s13 wx => s13 = .int .i64 R ∧ w7 = wx)
  case first =>
    go_wp2_with fail
    go_meet
    exact ⟨congrArg _ (by rw [hR.out]; try simp), rfl⟩
  obtain ⟨rfl, rfl⟩ := hcut
  go_upto_if 53 with fail
  go_cut [13] (fun s13 wx => s13 = .int .i64 (K : Int) ∧ w7 = wx)
  case first =>

    rcases HRK.out with ⟨h1, h2⟩ | ⟨h1, h2⟩
    all_goals
      go_wp2_with fail
      go_meet
      first | exact ⟨rfl, rfl⟩ | exact ⟨congrArg _ h2, rfl⟩
  obtain ⟨rfl, rfl⟩ := hcut
  clear hRK HRK hRb
  have hk0 : (0 : Int) ≤ (K : Int) := by omega
  have hk1 : (K : Int) ≤ (T.size : Int) := by omega
  go_wp2_with fail
  rw [← hT2'.out]
  refine (wread_any T2 _ hs2).mono ?_; rintro e w8 ⟨k', f', s', p', fl', d0', d1', rc', lg', mark', am', ab', ac', ag', av', nl', kl', nb', kb', nc', kc', ng', kg', nv', kv', live', bs', cl', tags', view', E', rfl, _, _, hh, hB8⟩
  obtain rfl := H2.out _ _ hh
  replace HB := Lib.hid (bNext HB.out hB8)
  clear hh hB8 H2
  obtain ⟨w9, hw9⟩ := nm (w8.alloc (.cells #[.int .i64 k', .int .i64 f', .int .i64 s', .int .i64 p', .int .i64 fl', .string mark', .slice am' nl' kl', .slice ab' nb' kb', .slice ac' nc' kc', .slice ag' ng' kg', .slice av' nv' kv', .int .i64 d0', .int .i64 d1', .int .i64 rc', .int .i64 lg'] 33))
  replace HB : Hid (Below W.heap.size W w9) := by show Below _ _ _; rw [hw9.out]; exact bNew HB.out _
  go_upto_region 14 with fail
  rw [← hw9.out]
  have hcv := conv_byte c u hcu.out w9
  have hs8 : T.size + (ofL [u]).size ≤ 1000000 := by rw [ofL_size]; simp; omega
  obtain ⟨u1, hu1⟩ := nm (ofL [u])
  rw [← hu1.out] at hcv hs8 hT3'
  have hadd := fun w : World => run_string_add_sum (P := Try.prog) w T u1 (by omega)
  clear hw9
  go_wp2_with fail
  rw [← hT3'.out]
  refine (wread_any T3 _ hs3).mono ?_; rintro e wa ⟨k', f', s', p', fl', d0', d1', rc', lg', mark', am', ab', ac', ag', av', nl', kl', nb', kb', nc', kc', ng', kg', nv', kv', live', bs', cl', tags', view', E', rfl, _, _, hh, hBa⟩
  obtain rfl := H3.out _ _ hh
  have HBa : Hid (Below W.heap.size W wa) := bNext (bNew HB.out _) hBa
  clear hh hBa H3 hcv hadd HB
  go_wp2_with fail
  go_ret
  exact ⟨rfl, bNew HBa.out _⟩

namespace LWireBack
open Go.ChangeShapes Go.WideShapes Go.ChangeAt
open Go.ChangeMaps (open_string shut_string)

set_option maxRecDepth 100000 in
theorem contract (H : Type) (enc : TypeId × Value → H) (W : World) (base : Nat) (args : Array Value) (ds gs : List (DataW H)) (before : List MemPlace)
    (hval : ∀ (j : Nat) t v, Try.f4.params[j]? = some t → args[j]? = some v → Value.okWide Try.prog W .any base t v)
    (hW : DataW.Whole enc Try.prog Try.f4.params.toList Rows.wireBackSpec.vars false W args.toList ds gs before)
    (_hsz : (DataW.weightsEach Try.prog (Try.f4.params.toList ++ (OpenSpec.ofChange Rows.wireBackSpec).bare.plain.varTypes Try.prog) (ds ++ gs)).all (fun x => decide (x ≤ reachBytes)) = true) :
    Calls Try.prog 4 args W fun e W' => ∃ v, e = .returned v ∧ Rows.wireBackSpec.post enc Try.prog Try.f4 false true false false W args v W' := by
  have hW' := hW
  obtain ⟨p, q, hA0, hV, rfl, hfz, hnd⟩ := hW
  have hA : DataW.TrodAll enc Try.prog W 0 (fun _ => true) true Try.f4.params.toList args.toList ds p := hA0
  rw [Try.params4] at hA hval
  obtain ⟨v0, vs0, d0, ds0, p0, q0, hargs, rfl, rfl, h0, r0⟩ := trodAll_cons hA
  obtain ⟨v1, vs1, d1, ds1, p1, q1, rfl, rfl, rfl, h1, r1⟩ := trodAll_cons r0
  obtain ⟨v2, vs2, d2, ds2, p2, q2, rfl, rfl, rfl, h2, r2⟩ := trodAll_cons r1
  obtain ⟨rfl, rfl, rfl⟩ := trodAll_nil r2
  obtain rfl : args = #[v0, v1, v2] := by cases args; simp_all
  obtain ⟨rfl, rfl⟩ := trodVars_none hV
  obtain ⟨k0, f0, s0, p0, fl0, da0, db0, rc0, lg0, mk0, am0, ab0, ac0, ag0, av0, nl0, kl0, nb0, kb0, nc0, kc0, ng0, kg0, nv0, kv0, lv0, bs0, cl0, tg0, vw0, rfl, ⟨la0, lb0, lc0, sa0⟩, ⟨ma0, mb0, mc0, sb0⟩, ⟨na0, nb'0, nc'0, sc0⟩, ⟨oa0, ob0, oc0, sd0⟩, ⟨pa0, pb0, pc0, se0⟩⟩ := open_wire (hval 0 33 v0 rfl rfl) h0
  obtain ⟨x1, rfl, rfl, rfl, k1⟩ := open_int Try.underlying3 (hval 1 3 v1 rfl rfl) h1
  obtain ⟨x2, rfl, rfl, rfl, k2⟩ := open_int Try.underlying5 (hval 2 5 v2 rfl rfl) h2
  clear hA0
  refine (wireBack_walk k0 f0 s0 p0 fl0 da0 db0 rc0 lg0 mk0 am0 ab0 ac0 ag0 av0 nl0 kl0 nb0 kb0 nc0 kc0 ng0 kg0 nv0 kv0 lv0 bs0 cl0 tg0 vw0 la0 ⟨ma0, mb0⟩ ⟨na0, nb'0⟩ oa0 ⟨pa0, pb0⟩ x1 x2 k1 k2 W sa0 sb0 sc0 sd0 se0).mono fun e W' ⟨he, hb⟩ => ?_
  subst he
  exact ⟨_, rfl, law_post laidOut Try.underlying4 rfl (by kernel_rfl) rfl rfl rfl rfl hW' hb⟩

theorem reads (os : Os) {H : Type} (enc : TypeId × Value → H) : ∃ places, DataW.whole enc Try.prog ((World.holding Try.prog os ⟨#[], #[], []⟩).forCall (fun _ _ => 0) ⟨#[], #[.agg #[.int .i64 0, .int .i64 0, .int .i64 0, .int .i64 0, .int .i64 0, .string .empty, .slice none 0 0, .slice none 0 0, .slice none 0 0, .slice none 0 0, .slice none 0 0, .int .i64 0, .int .i64 0, .int .i64 0, .int .i64 0], .int .i64 0, .int .u8 0], []⟩).memory Try.f4.params.toList Rows.wireBackSpec.vars false (#[.agg #[.int .i64 0, .int .i64 0, .int .i64 0, .int .i64 0, .int .i64 0, .string .empty, .slice none 0 0, .slice none 0 0, .slice none 0 0, .slice none 0 0, .slice none 0 0, .int .i64 0, .int .i64 0, .int .i64 0, .int .i64 0], .int .i64 0, .int .u8 0] : Array Value).toList 8 = some ([.agg [.lit (.int .i64 0), .lit (.int .i64 0), .lit (.int .i64 0), .lit (.int .i64 0), .lit (.int .i64 0), .lit (.string []), .agg [.nil, .agg [.nil, .nil]], .nil, .nil, .agg [.lit (.int .i64 0), .lit (.int .i64 0)], .lit (.int .i64 0), .lit (.int .i64 0)], .lit (.int .i64 0), .lit (.int .u8 0)], [], places) :=
  ⟨[], by kernel_rfl⟩
theorem laid_met (os : Os) : laidMet Try.prog Rows.wireBackRow.laid ((World.holding Try.prog os ⟨#[], #[], []⟩).forCall (fun _ _ => 0) ⟨#[], #[.agg #[.int .i64 0, .int .i64 0, .int .i64 0, .int .i64 0, .int .i64 0, .string .empty, .slice none 0 0, .slice none 0 0, .slice none 0 0, .slice none 0 0, .slice none 0 0, .int .i64 0, .int .i64 0, .int .i64 0, .int .i64 0], .int .i64 0, .int .u8 0], []⟩).memory :=
  laidMet_of_run' 8 (by kernel_rfl) (by kernel_rfl)

set_option maxRecDepth 100000 in
theorem lifted (os : Os) (started : os.Started) (H : Type) (enc : TypeId × Value → H) (F : Stop.Interp) :
    ReturnsInHanded {} Try.checked os 4 .any ((OpenSpec.ofChange Rows.wireBackSpec).preRow enc Try.prog Try.f4 Rows.wireBackRow.domain false Rows.wireBackRow.laid) (((OpenSpec.ofChange Rows.wireBackSpec).at F).post enc Try.prog Try.f4 false true false false) := by
  obtain ⟨places, hx⟩ := reads os enc
  refine returnsInHanded_of_row (C := Try.checked) (s := OpenSpec.ofChange Rows.wireBackSpec) own started (by kernel_rfl) Try.func4
    (witness_row_at (enc := enc) (C := Try.checked) false (World.holding Try.prog os ⟨#[], #[], []⟩) #[.agg #[.int .i64 0, .int .i64 0, .int .i64 0, .int .i64 0, .int .i64 0, .string .empty, .slice none 0 0, .slice none 0 0, .slice none 0 0, .slice none 0 0, .slice none 0 0, .int .i64 0, .int .i64 0, .int .i64 0, .int .i64 0], .int .i64 0, .int .u8 0] rfl (by kernel_rfl) (by kernel_rfl) (by kernel_rfl)
      (OpenSpec.preRow_of_cond 8 hx (by kernel_rfl) (fun k hk => by cases hk) (by kernel_rfl) (laid_met os))) ?_
  intro W base args ds gs before hval hW _ _ hsz hL _ _
  exact contract H enc W base args ds gs before hval hW hsz

theorem said : Rows.WireBackSaid :=
  OpenClaim.holds_of_cond 4 Try.f4 rfl rfl rfl rfl rfl rfl rfl ⟨rfl, rfl, rfl, rfl, rfl⟩ rfl rfl rfl rfl rfl (by kernel_rfl) Try.func4 (by kernel_rfl)
    (of_decide_eq_true (by kernel_rfl)) (by unfold Func.isWrapper; first | (rw [if_pos (by decide +kernel)]; kernel_rfl) | (rw [if_neg (by decide +kernel)]; exact ⟨rfl, rfl⟩))
    (fun os started H enc _ F => by rw [OpenClaim.pre_eq_preRow]; exact lifted os started H enc F)
end LWireBack
end Go.Proofs.Ytfpjdmplepepjaa
