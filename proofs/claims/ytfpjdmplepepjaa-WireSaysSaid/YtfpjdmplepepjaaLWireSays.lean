/- WireSays: for anything that is said, any number and either way the law returns true. -/
import Derived.Test.YtfpjdmplepepjaaJ7
import Derived.Test.YtfpjdmplepepjaaJ11
import Derived.Test.YtfpjdmplepepjaaJ1
import Derived.Outline
import Derived.Deep.CutBlock
import Derived.Deep.DeepCutAuto
namespace Go.Proofs.Ytfpjdmplepepjaa
open Go.RowKit

theorem mkz_is (n : Nat) (x : Int) (hx : x = (n : Int)) (hn : n ≤ 281474976710656) (w : World) : (Instr.makeSlice 36 (.int .i64 x) (.int .i64 x)).run Try.prog w = .ok (.slice (some ⟨w.heap.size, 0, none⟩) n n) (w.alloc (.cells (madeCells #[.int .u8 0] n) 5)) := by
  subst hx; exact make_bytes n hn w
/-- Box x holds what is said. -/
def Box15 (x : Nat) (w : World) : Prop := ∃ (k f s p fl d0 d1 rc lg : Int) (mark : ByteArray) (am ab ac ag av : Option Addr) (nl kl nb kb nc kc ng kg nv kv : Nat) (live : List Msg5) (bs cl : List Dot2) (tags : List Tag2) (view : List Peer3), Blk w x #[.int .i64 k, .int .i64 f, .int .i64 s, .int .i64 p, .int .i64 fl, .string mark, .slice am nl kl, .slice ab nb kb, .slice ac nc kc, .slice ag ng kg, .slice av nv kv, .int .i64 d0, .int .i64 d1, .int .i64 rc, .int .i64 lg] 33 ∧ Lies w am ab ac ag av nl nb nc ng nv live bs cl tags view
set_option maxRecDepth 100000 in
set_option maxHeartbeats 8000000 in
theorem wireSays_walk (k f s p fl d0 d1 rc lg : Int) (mark : ByteArray) (am ab ac ag av : Option Addr) (nl kl nb kb nc kc ng kg nv kv : Nat) (live : List Msg5) (bs cl : List Dot2) (tags : List Tag2) (view : List Peer3) (hl0 : Hid (live.length = nl)) (hl1 : Hid (bs.length = nb ∧ nb ≤ kb)) (hl2 : Hid (cl.length = nc ∧ nc ≤ kc)) (hl3 : Hid (tags.length = ng)) (hl4 : Hid (view.length = nv ∧ nv ≤ kv)) (more : Int) (long : Bool) (W : World) (g0 : SlE eMsg 5 W am live) (g1 : SlE eDot 2 W ab bs) (g2 : SlE eDot 2 W ac cl) (g3 : SlE eTag 2 W ag tags) (g4 : SlE ePeer 3 W av view) :
    Calls Try.prog 3 #[.agg #[.int .i64 k, .int .i64 f, .int .i64 s, .int .i64 p, .int .i64 fl, .string mark, .slice am nl kl, .slice ab nb kb, .slice ac nc kc, .slice ag ng kg, .slice av nv kv, .int .i64 d0, .int .i64 d1, .int .i64 rc, .int .i64 lg], .int .i64 more, .bool long] W fun e W' => e = .returned (.bool true) ∧ Below W.heap.size W W' := by
  have G0 := Lib.hid g0
  have G1 := Lib.hid g1
  have G2 := Lib.hid g2
  have G3 := Lib.hid g3
  have G4 := Lib.hid g4
  clear g0 g1 g2 g3 g4
  obtain ⟨w0, hw0⟩ := nm (W.alloc (.cells #[.int .i64 k, .int .i64 f, .int .i64 s, .int .i64 p, .int .i64 fl, .string mark, .slice am nl kl, .slice ab nb kb, .slice ac nc kc, .slice ag ng kg, .slice av nv kv, .int .i64 d0, .int .i64 d1, .int .i64 rc, .int .i64 lg] 33))
  obtain ⟨x, hx⟩ := nm W.heap.size
  have Kx : Hid (Blk w0 x #[.int .i64 k, .int .i64 f, .int .i64 s, .int .i64 p, .int .i64 fl, .string mark, .slice am nl kl, .slice ab nb kb, .slice ac nc kc, .slice ag ng kg, .slice av nv kv, .int .i64 d0, .int .i64 d1, .int .i64 rc, .int .i64 lg] 33) := blkN hw0.out hx.out
  have HB0 : Hid (Below W.heap.size W w0) := by rw [hw0.out]; exact bNew (Below.refl _ _) _
  have HXW : Hid (W.heap.size ≤ x) := Nat.le_of_eq hx.out.symm
  have hm1 : -200 < more.tmod 200 := by have := Int.tmod_lt_of_pos (-more) (b := 200) (by decide); rw [Int.neg_tmod] at this; omega
  have hm2 : more.tmod 200 < 200 := Int.tmod_lt_of_pos _ (by decide)
  obtain ⟨R, hR⟩ := nm (more.tmod 200)
  have hRK : ∃ K : Nat, K < 200 ∧ ((R < 0 ∧ -R = (K : Int)) ∨ (¬ R < 0 ∧ R = (K : Int))) := ⟨R.natAbs, by rw [hR.out]; omega, by omega⟩
  obtain ⟨K, hK, hRK⟩ := hRK
  have HRK := Lib.hid hRK
  have HR1 : Hid (-200 < R ∧ R < 200) := by show _ ∧ _; rw [hR.out]; exact ⟨hm1, hm2⟩
  clear hm1 hm2 hRK
  go_enter Try.func3, Try.ntmps3
  go_upto_region 1 with fail
  rw [← hw0.out, ← hx.out]
  go_wp2_with fail
  refine (awake_any _).mono ?_; rintro e w1 ⟨rfl, hB1⟩
  replace Kx := Lib.hid (Kx.out.below hB1 Kx.out.lt)
  have HB1 : Hid (Below W.heap.size W w1) := bNext HB0.out hB1
  clear hB1 HB0 hw0
  have c0 : w1.cell? ⟨x, 0, none⟩ = some (.int .i64 k) := Kx.out.cell 0
  have c1 : w1.cell? ⟨x, 1, none⟩ = some (.int .i64 f) := Kx.out.cell 1
  have c2 : w1.cell? ⟨x, 2, none⟩ = some (.int .i64 s) := Kx.out.cell 2
  have c3 : w1.cell? ⟨x, 3, none⟩ = some (.int .i64 p) := Kx.out.cell 3
  have c4 : w1.cell? ⟨x, 4, none⟩ = some (.int .i64 fl) := Kx.out.cell 4
  have c5 : w1.cell? ⟨x, 5, none⟩ = some (.string mark) := Kx.out.cell 5
  have c6 : w1.cell? ⟨x, 6, none⟩ = some (.slice am nl kl) := Kx.out.cell 6
  have c7 : w1.cell? ⟨x, 7, none⟩ = some (.slice ab nb kb) := Kx.out.cell 7
  have c8 : w1.cell? ⟨x, 8, none⟩ = some (.slice ac nc kc) := Kx.out.cell 8
  have c9 : w1.cell? ⟨x, 9, none⟩ = some (.slice ag ng kg) := Kx.out.cell 9
  have c10 : w1.cell? ⟨x, 10, none⟩ = some (.slice av nv kv) := Kx.out.cell 10
  have c11 : w1.cell? ⟨x, 11, none⟩ = some (.int .i64 d0) := Kx.out.cell 11
  have c12 : w1.cell? ⟨x, 12, none⟩ = some (.int .i64 d1) := Kx.out.cell 12
  have c13 : w1.cell? ⟨x, 13, none⟩ = some (.int .i64 rc) := Kx.out.cell 13
  have c14 : w1.cell? ⟨x, 14, none⟩ = some (.int .i64 lg) := Kx.out.cell 14
  go_wp2_with fail
  refine (small_any k f s p fl d0 d1 rc lg mark am ab ac ag av nl kl nb kb nc kc ng kg nv kv live bs cl tags view hl0 hl1 hl2 hl3 hl4 _ (G0.out.below HB1.out) (G1.out.below HB1.out) (G2.out.below HB1.out) (G3.out.below HB1.out) (G4.out.below HB1.out)).mono ?_
  rintro e w2 ⟨mk, am2, ag2, nl2, kl2, nb2, nc2, ng2, kg2, nv2, live2, tags2, rfl, hln, hs0, hs3, hsm, hB2⟩
  have HLX : Hid (x < w1.heap.size) := Kx.out.lt
  replace Kx := Lib.hid (Kx.out.below hB2 Kx.out.lt)
  have HB2 : Hid (Below W.heap.size W w2) := bNext HB1.out hB2
  have HO : Hid (HoldsW x x x (w2.setRow x #[.int .i64 k, .int .i64 f, .int .i64 s, .int .i64 p, .int .i64 fl, .string mk, .slice am2 nl2 kl2, .slice ab nb2 kb, .slice ac nc2 kc, .slice ag2 ng2 kg2, .slice av nv2 kv, .int .i64 d0, .int .i64 d1, .int .i64 rc, .int .i64 lg])) := HoldsW.laid HB2.out HXW.out HXW.out HLX.out HLX.out (.inl rfl) Kx.out G1.out G2.out G4.out hln hs0 hs3 hsm
  clear hln hs0 hs3 hsm hB2 c0 c1 c2 c3 c4 c5 c6 c7 c8 c9 c10 c11 c12 c13 c14 HLX HB1
  have hone : (#[.int .i64 k, .int .i64 f, .int .i64 s, .int .i64 p, .int .i64 fl, .string mk, .slice am2 nl2 kl2, .slice ab nb2 kb, .slice ac nc2 kc, .slice ag2 ng2 kg2, .slice av nv2 kv, .int .i64 d0, .int .i64 d1, .int .i64 rc, .int .i64 lg] : Array Value).all (·.oneCell') = true := by simp [Value.oneCell']
  go_upto_region 3 with (refine wpList_store_row rfl 33 _ _ rfl x #[.int .i64 k, .int .i64 f, .int .i64 s, .int .i64 p, .int .i64 fl, .string mk, .slice am2 nl2 kl2, .slice ab nb2 kb, .slice ac nc2 kc, .slice ag2 ng2 kg2, .slice av nv2 kv, .int .i64 d0, .int .i64 d1, .int .i64 rc, .int .i64 lg] rfl rfl 33 #[.int .i64 k, .int .i64 f, .int .i64 s, .int .i64 p, .int .i64 fl, .string mark, .slice am nl kl, .slice ab nb kb, .slice ac nc kc, .slice ag ng kg, .slice av nv kv, .int .i64 d0, .int .i64 d1, .int .i64 rc, .int .i64 lg] Kx.out infoWire rfl hone ?_)
  obtain ⟨w3, hw3⟩ := nm (w2.setRow x #[.int .i64 k, .int .i64 f, .int .i64 s, .int .i64 p, .int .i64 fl, .string mk, .slice am2 nl2 kl2, .slice ab nb2 kb, .slice ac nc2 kc, .slice ag2 ng2 kg2, .slice av nv2 kv, .int .i64 d0, .int .i64 d1, .int .i64 rc, .int .i64 lg])
  rw [← hw3.out]
  rw [← hw3.out] at HO
  have HB3 : Hid (Below W.heap.size W w3) := by rw [hw3.out]; exact below_setRow HB2.out HXW.out _
  clear hone HB2 hw3 Kx G0 G1 G2 G3 G4 hl0 hl1 hl2 hl3 hl4
  go_upto_if 16 with fail
  go_cut [16] (fun _ wx => Box15 x wx ∧ Below W.heap.size W wx)
  case first => as_aux_lemma =>
    obtain ⟨k, f, s, p, fl, d0, d1, rc, lg, mark, am, ab, ac, ag, av, nl, kl, nb, kb, nc, kc, ng, kg, nv, kv, live, bs, cl, tags, view, hk, hli, hfar, _⟩ := HO.out
    cases long
    · go_wp2_with fail
      go_meet
      exact ⟨⟨k, f, s, p, fl, d0, d1, rc, lg, mark, am, ab, ac, ag, av, nl, kl, nb, kb, nc, kc, ng, kg, nv, kv, live, bs, cl, tags, view, hk, hli⟩, HB3.out⟩
    · have Kx := Lib.hid hk
      have HL := Lib.hid hli
      have HF := Lib.hid hfar
      clear hk hli hfar HO
      go_upto_region 4 with fail
      go_cut [8] (fun s8 wx => s8 = .int .i64 R ∧ w3 = wx)
      case first =>
        go_wp2_with fail
        go_meet
        exact ⟨congrArg _ (by rw [hR.out]; try simp), rfl⟩
      obtain ⟨rfl, rfl⟩ := hcut
      go_upto_if 20 with fail
      go_cut [8] (fun s8 wx => s8 = .int .i64 (K : Int) ∧ w3 = wx)
      case first =>
        have hb := HR1.out
        obtain ⟨hb1, hb2⟩ := hb
        rcases HRK.out with ⟨h1, h2⟩ | ⟨h1, h2⟩
        all_goals
          go_wp2_with fail
          go_meet
          first | exact ⟨rfl, rfl⟩ | exact ⟨congrArg _ h2, rfl⟩
      obtain ⟨rfl, rfl⟩ := hcut
      have hmk := mkz_is (7850 + K) (7850 + (K : Int)) (by simp) (by omega)
      have hcv : ∀ w : World, _ := fun w => conv_new (P := Try.prog) w 36 5 9 5 Try.underlying36 Try.underlying5 Try.underlying9 (7850 + K) (7850 + K) (List.replicate (7850 + K) 0) _ (by simp) (zeroCells (7850 + K))
      obtain ⟨Z, hZ⟩ := nm (ofL (List.replicate (7850 + K) (0 : UInt8)))
      rw [← hZ.out] at hcv
      obtain ⟨wb, hwb⟩ := nm (w3.alloc (.cells (madeCells #[.int .u8 0] (7850 + K)) 5))
      replace Kx : Hid (Blk wb x #[.int .i64 k, .int .i64 f, .int .i64 s, .int .i64 p, .int .i64 fl, .string mark, .slice am nl kl, .slice ab nb kb, .slice ac nc kc, .slice ag ng kg, .slice av nv kv, .int .i64 d0, .int .i64 d1, .int .i64 rc, .int .i64 lg] 33) := by show Blk _ _ _ _; rw [hwb.out]; exact Kx.out.alloc _
      replace HL : Hid (Lies wb am ab ac ag av nl nb nc ng nv live bs cl tags view) := by show Lies _ _ _ _ _ _ _ _ _ _ _ _ _ _ _ _; rw [hwb.out]; exact HL.out.below (bOld _)
      have HBb : Hid (Below W.heap.size W wb) := by show Below _ _ _; rw [hwb.out]; exact bNew HB3.out _
      have cx : (w3.alloc (.cells (madeCells #[.int .u8 0] (7850 + K)) 5)).cell? ⟨x, 5, none⟩ = some (.string mark) := by rw [← hwb.out]; exact Kx.out.cell 5
      have fx : (w3.alloc (.cells (madeCells #[.int .u8 0] (7850 + K)) 5)).frozen? ⟨x, 5, none⟩ = false := by rw [← hwb.out]; exact Kx.out.free 5
      go_wp2_with fail
      rw [← hwb.out]
      go_meet
      have ht : Two x x wb (wb.setCell ⟨x, 5, none⟩ (.string Z)) := ⟨by simp, fun i _ h1 _ => Below.heap_setCell _ _ _ _ h1⟩
      exact ⟨⟨k, f, s, p, fl, d0, d1, rc, lg, Z, am, ab, ac, ag, av, nl, kl, nb, kb, nc, kc, ng, kg, nv, kv, live, bs, cl, tags, view, Kx.out.set 5 _, HL.out.two HF.out ht⟩, HBb.out.setCell (p := ⟨x, 5, none⟩) HXW.out _⟩
  obtain ⟨hbx, hB⟩ := hcut
  rename World => w6
  clear HO HB3 HRK HR1
  obtain ⟨k, f, s, p, fl, d0, d1, rc, lg, mark, am, ab, ac, ag, av, nl, kl, nb, kb, nc, kc, ng, kg, nv, kv, live, bs, cl, tags, view, hk, hli⟩ := hbx
  have Kx := Lib.hid hk
  have HL := Lib.hid hli
  have HB := Lib.hid hB
  clear hk hli hB
  obtain ⟨T, E, hT⟩ := said_is (WL.mk k f s p fl d0 d1 rc lg mark live bs cl tags view)
  have HT := Lib.hid hT
  clear hT
  have c0 : w6.cell? ⟨x, 0, none⟩ = some (.int .i64 k) := Kx.out.cell 0
  have c1 : w6.cell? ⟨x, 1, none⟩ = some (.int .i64 f) := Kx.out.cell 1
  have c2 : w6.cell? ⟨x, 2, none⟩ = some (.int .i64 s) := Kx.out.cell 2
  have c3 : w6.cell? ⟨x, 3, none⟩ = some (.int .i64 p) := Kx.out.cell 3
  have c4 : w6.cell? ⟨x, 4, none⟩ = some (.int .i64 fl) := Kx.out.cell 4
  have c5 : w6.cell? ⟨x, 5, none⟩ = some (.string mark) := Kx.out.cell 5
  have c6 : w6.cell? ⟨x, 6, none⟩ = some (.slice am nl kl) := Kx.out.cell 6
  have c7 : w6.cell? ⟨x, 7, none⟩ = some (.slice ab nb kb) := Kx.out.cell 7
  have c8 : w6.cell? ⟨x, 8, none⟩ = some (.slice ac nc kc) := Kx.out.cell 8
  have c9 : w6.cell? ⟨x, 9, none⟩ = some (.slice ag ng kg) := Kx.out.cell 9
  have c10 : w6.cell? ⟨x, 10, none⟩ = some (.slice av nv kv) := Kx.out.cell 10
  have c11 : w6.cell? ⟨x, 11, none⟩ = some (.int .i64 d0) := Kx.out.cell 11
  have c12 : w6.cell? ⟨x, 12, none⟩ = some (.int .i64 d1) := Kx.out.cell 12
  have c13 : w6.cell? ⟨x, 13, none⟩ = some (.int .i64 rc) := Kx.out.cell 13
  have c14 : w6.cell? ⟨x, 14, none⟩ = some (.int .i64 lg) := Kx.out.cell 14
  go_wp2_with fail
  refine (wbytes_any k f s p fl d0 d1 rc lg mark am ab ac ag av nl kl nb kb nc kc ng kg nv kv live bs cl tags view T E HT _ HL.out).mono ?_; rintro e w7 ⟨rfl, hB7⟩
  replace Kx := Lib.hid (Kx.out.below hB7 Kx.out.lt)
  replace HL := Lib.hid (HL.out.below hB7)
  replace HB := Lib.hid (bNext HB.out hB7)
  clear hB7 c0 c1 c2 c3 c4 c5 c6 c7 c8 c9 c10 c11 c12 c13 c14
  have c0 : w7.cell? ⟨x, 0, none⟩ = some (.int .i64 k) := Kx.out.cell 0
  have c1 : w7.cell? ⟨x, 1, none⟩ = some (.int .i64 f) := Kx.out.cell 1
  have c2 : w7.cell? ⟨x, 2, none⟩ = some (.int .i64 s) := Kx.out.cell 2
  have c3 : w7.cell? ⟨x, 3, none⟩ = some (.int .i64 p) := Kx.out.cell 3
  have c4 : w7.cell? ⟨x, 4, none⟩ = some (.int .i64 fl) := Kx.out.cell 4
  have c5 : w7.cell? ⟨x, 5, none⟩ = some (.string mark) := Kx.out.cell 5
  have c6 : w7.cell? ⟨x, 6, none⟩ = some (.slice am nl kl) := Kx.out.cell 6
  have c7 : w7.cell? ⟨x, 7, none⟩ = some (.slice ab nb kb) := Kx.out.cell 7
  have c8 : w7.cell? ⟨x, 8, none⟩ = some (.slice ac nc kc) := Kx.out.cell 8
  have c9 : w7.cell? ⟨x, 9, none⟩ = some (.slice ag ng kg) := Kx.out.cell 9
  have c10 : w7.cell? ⟨x, 10, none⟩ = some (.slice av nv kv) := Kx.out.cell 10
  have c11 : w7.cell? ⟨x, 11, none⟩ = some (.int .i64 d0) := Kx.out.cell 11
  have c12 : w7.cell? ⟨x, 12, none⟩ = some (.int .i64 d1) := Kx.out.cell 12
  have c13 : w7.cell? ⟨x, 13, none⟩ = some (.int .i64 rc) := Kx.out.cell 13
  have c14 : w7.cell? ⟨x, 14, none⟩ = some (.int .i64 lg) := Kx.out.cell 14
  go_wp2_with fail
  refine (refwbytes_any k f s p fl d0 d1 rc lg mark am ab ac ag av nl kl nb kb nc kc ng kg nv kv live bs cl tags view T E HT _ HL.out).mono ?_; rintro e w8 ⟨rfl, hB7⟩
  replace Kx := Lib.hid (Kx.out.below hB7 Kx.out.lt)
  replace HL := Lib.hid (HL.out.below hB7)
  replace HB := Lib.hid (bNext HB.out hB7)
  clear hB7 c0 c1 c2 c3 c4 c5 c6 c7 c8 c9 c10 c11 c12 c13 c14 HT
  have c0 : w8.cell? ⟨x, 0, none⟩ = some (.int .i64 k) := Kx.out.cell 0
  have c1 : w8.cell? ⟨x, 1, none⟩ = some (.int .i64 f) := Kx.out.cell 1
  have c2 : w8.cell? ⟨x, 2, none⟩ = some (.int .i64 s) := Kx.out.cell 2
  have c3 : w8.cell? ⟨x, 3, none⟩ = some (.int .i64 p) := Kx.out.cell 3
  have c4 : w8.cell? ⟨x, 4, none⟩ = some (.int .i64 fl) := Kx.out.cell 4
  have c5 : w8.cell? ⟨x, 5, none⟩ = some (.string mark) := Kx.out.cell 5
  have c6 : w8.cell? ⟨x, 6, none⟩ = some (.slice am nl kl) := Kx.out.cell 6
  have c7 : w8.cell? ⟨x, 7, none⟩ = some (.slice ab nb kb) := Kx.out.cell 7
  have c8 : w8.cell? ⟨x, 8, none⟩ = some (.slice ac nc kc) := Kx.out.cell 8
  have c9 : w8.cell? ⟨x, 9, none⟩ = some (.slice ag ng kg) := Kx.out.cell 9
  have c10 : w8.cell? ⟨x, 10, none⟩ = some (.slice av nv kv) := Kx.out.cell 10
  have c11 : w8.cell? ⟨x, 11, none⟩ = some (.int .i64 d0) := Kx.out.cell 11
  have c12 : w8.cell? ⟨x, 12, none⟩ = some (.int .i64 d1) := Kx.out.cell 12
  have c13 : w8.cell? ⟨x, 13, none⟩ = some (.int .i64 rc) := Kx.out.cell 13
  have c14 : w8.cell? ⟨x, 14, none⟩ = some (.int .i64 lg) := Kx.out.cell 14
  obtain ⟨B, hBo, _, _⟩ := boolOf (WL.mk k f s p fl d0 d1 rc lg mark live bs cl tags view).May
  have KEEP : Hid (∀ wb : World, Below w8.drew.heap.size w8.drew wb → wb.cell? ⟨x, 0, none⟩ = some (.int .i64 k) ∧ wb.cell? ⟨x, 1, none⟩ = some (.int .i64 f) ∧ wb.cell? ⟨x, 2, none⟩ = some (.int .i64 s) ∧ wb.cell? ⟨x, 3, none⟩ = some (.int .i64 p) ∧ wb.cell? ⟨x, 4, none⟩ = some (.int .i64 fl) ∧ wb.cell? ⟨x, 5, none⟩ = some (.string mark) ∧ wb.cell? ⟨x, 6, none⟩ = some (.slice am nl kl) ∧ wb.cell? ⟨x, 7, none⟩ = some (.slice ab nb kb) ∧ wb.cell? ⟨x, 8, none⟩ = some (.slice ac nc kc) ∧ wb.cell? ⟨x, 9, none⟩ = some (.slice ag ng kg) ∧ wb.cell? ⟨x, 10, none⟩ = some (.slice av nv kv) ∧ wb.cell? ⟨x, 11, none⟩ = some (.int .i64 d0) ∧ wb.cell? ⟨x, 12, none⟩ = some (.int .i64 d1) ∧ wb.cell? ⟨x, 13, none⟩ = some (.int .i64 rc) ∧ wb.cell? ⟨x, 14, none⟩ = some (.int .i64 lg)) := by
    show ∀ wb : World, _
    intro wb h
    have h1 := Blk.below (w := w8.drew) Kx.out h Kx.out.lt
    exact ⟨h1.cell 0, h1.cell 1, h1.cell 2, h1.cell 3, h1.cell 4, h1.cell 5, h1.cell 6, h1.cell 7, h1.cell 8, h1.cell 9, h1.cell 10, h1.cell 11, h1.cell 12, h1.cell 13, h1.cell 14⟩
  go_wp2_with fail
  refine wp_region_held_drew (S := fun w' => w'.cell? ⟨x, 0, none⟩ = some (.int .i64 k) ∧ w'.cell? ⟨x, 1, none⟩ = some (.int .i64 f) ∧ w'.cell? ⟨x, 2, none⟩ = some (.int .i64 s) ∧ w'.cell? ⟨x, 3, none⟩ = some (.int .i64 p) ∧ w'.cell? ⟨x, 4, none⟩ = some (.int .i64 fl) ∧ w'.cell? ⟨x, 5, none⟩ = some (.string mark) ∧ w'.cell? ⟨x, 6, none⟩ = some (.slice am nl kl) ∧ w'.cell? ⟨x, 7, none⟩ = some (.slice ab nb kb) ∧ w'.cell? ⟨x, 8, none⟩ = some (.slice ac nc kc) ∧ w'.cell? ⟨x, 9, none⟩ = some (.slice ag ng kg) ∧ w'.cell? ⟨x, 10, none⟩ = some (.slice av nv kv) ∧ w'.cell? ⟨x, 11, none⟩ = some (.int .i64 d0) ∧ w'.cell? ⟨x, 12, none⟩ = some (.int .i64 d1) ∧ w'.cell? ⟨x, 13, none⟩ = some (.int .i64 rc) ∧ w'.cell? ⟨x, 14, none⟩ = some (.int .i64 lg)) (by kernel_rfl) (⟨c0, c1, c2, c3, c4, c5, c6, c7, c8, c9, c10, c11, c12, c13, c14⟩) (fun hHeld => ?_)
  refine wpAnyH_take (i := 0) (v := ?_) (takeL rfl) (by kernel_rfl) (by kernel_rfl) (by kernel_rfl) (fun _ _ _ h => h) (Or.inl ⟨by rfl, ?_⟩) (by assumption) ?_
  rotate_left
  · (intro w hSw; (try dsimp only at hSw); first | (go_simp; done) | (go_simp; with_reducible rfl))
  try simp only [Act.put, List.setIfInBounds_toArray, List.set_cons_zero, List.set_cons_succ]
  refine wpAnyH_take (i := 1) (v := ?_) (takeL rfl) (by kernel_rfl) (by kernel_rfl) (by kernel_rfl) (fun _ _ _ h => h) (Or.inl ⟨by rfl, ?_⟩) (by assumption) ?_
  rotate_left
  · (intro w hSw; (try dsimp only at hSw); first | (go_simp; done) | (go_simp; with_reducible rfl))
  try simp only [Act.put, List.setIfInBounds_toArray, List.set_cons_zero, List.set_cons_succ]
  refine wpAnyH_take (i := 2) (v := ?_) (takeL rfl) (by kernel_rfl) (by kernel_rfl) (by kernel_rfl) (fun _ _ _ h => h) (Or.inl ⟨by rfl, ?_⟩) (by assumption) ?_
  rotate_left
  · (intro w hSw; (try dsimp only at hSw); first | (go_simp; done) | (go_simp; with_reducible rfl))
  try simp only [Act.put, List.setIfInBounds_toArray, List.set_cons_zero, List.set_cons_succ]
  refine wpAnyH_take (i := 3) (v := ?_) (takeL rfl) (by kernel_rfl) (by kernel_rfl) (by kernel_rfl) (fun _ _ _ h => h) (Or.inl ⟨by rfl, ?_⟩) (by assumption) ?_
  rotate_left
  · (intro w hSw; (try dsimp only at hSw); first | (go_simp; done) | (go_simp; with_reducible rfl))
  try simp only [Act.put, List.setIfInBounds_toArray, List.set_cons_zero, List.set_cons_succ]
  refine wpAnyH_take (i := 4) (v := ?_) (takeL rfl) (by kernel_rfl) (by kernel_rfl) (by kernel_rfl) (fun _ _ _ h => h) (Or.inl ⟨by rfl, ?_⟩) (by assumption) ?_
  rotate_left
  · (intro w hSw; (try dsimp only at hSw); first | (go_simp; done) | (go_simp; with_reducible rfl))
  try simp only [Act.put, List.setIfInBounds_toArray, List.set_cons_zero, List.set_cons_succ]
  refine wpAnyH_take (i := 5) (v := ?_) (takeL rfl) (by kernel_rfl) (by kernel_rfl) (by kernel_rfl) (fun _ _ _ h => h) (Or.inl ⟨by rfl, ?_⟩) (by assumption) ?_
  rotate_left
  · (intro w hSw; (try dsimp only at hSw); first | (go_simp; done) | (go_simp; with_reducible rfl))
  try simp only [Act.put, List.setIfInBounds_toArray, List.set_cons_zero, List.set_cons_succ]
  refine wpAnyH_take (i := 6) (v := ?_) (takeL rfl) (by kernel_rfl) (by kernel_rfl) (by kernel_rfl) (fun _ _ _ h => h) (Or.inl ⟨by rfl, ?_⟩) (by assumption) ?_
  rotate_left
  · (intro w hSw; (try dsimp only at hSw); first | (go_simp; done) | (go_simp; with_reducible rfl))
  try simp only [Act.put, List.setIfInBounds_toArray, List.set_cons_zero, List.set_cons_succ]
  refine wpAnyH_take (i := 7) (v := ?_) (takeL rfl) (by kernel_rfl) (by kernel_rfl) (by kernel_rfl) (fun _ _ _ h => h) (Or.inl ⟨by rfl, ?_⟩) (by assumption) ?_
  rotate_left
  · (intro w hSw; (try dsimp only at hSw); first | (go_simp; done) | (go_simp; with_reducible rfl))
  try simp only [Act.put, List.setIfInBounds_toArray, List.set_cons_zero, List.set_cons_succ]
  refine wpAnyH_take (i := 8) (v := ?_) (takeL rfl) (by kernel_rfl) (by kernel_rfl) (by kernel_rfl) (fun _ _ _ h => h) (Or.inl ⟨by rfl, ?_⟩) (by assumption) ?_
  rotate_left
  · (intro w hSw; (try dsimp only at hSw); first | (go_simp; done) | (go_simp; with_reducible rfl))
  try simp only [Act.put, List.setIfInBounds_toArray, List.set_cons_zero, List.set_cons_succ]
  refine wpAnyH_take (i := 9) (v := ?_) (takeL rfl) (by kernel_rfl) (by kernel_rfl) (by kernel_rfl) (fun _ _ _ h => h) (Or.inl ⟨by rfl, ?_⟩) (by assumption) ?_
  rotate_left
  · (intro w hSw; (try dsimp only at hSw); first | (go_simp; done) | (go_simp; with_reducible rfl))
  try simp only [Act.put, List.setIfInBounds_toArray, List.set_cons_zero, List.set_cons_succ]
  refine wpAnyH_take (i := 10) (v := ?_) (takeL rfl) (by kernel_rfl) (by kernel_rfl) (by kernel_rfl) (fun _ _ _ h => h) (Or.inl ⟨by rfl, ?_⟩) (by assumption) ?_
  rotate_left
  · (intro w hSw; (try dsimp only at hSw); first | (go_simp; done) | (go_simp; with_reducible rfl))
  try simp only [Act.put, List.setIfInBounds_toArray, List.set_cons_zero, List.set_cons_succ]
  refine wpAnyH_take (i := 11) (v := ?_) (takeL rfl) (by kernel_rfl) (by kernel_rfl) (by kernel_rfl) (fun _ _ _ h => h) (Or.inl ⟨by rfl, ?_⟩) (by assumption) ?_
  rotate_left
  · (intro w hSw; (try dsimp only at hSw); first | (go_simp; done) | (go_simp; with_reducible rfl))
  try simp only [Act.put, List.setIfInBounds_toArray, List.set_cons_zero, List.set_cons_succ]
  refine wpAnyH_take (i := 12) (v := ?_) (takeL rfl) (by kernel_rfl) (by kernel_rfl) (by kernel_rfl) (fun _ _ _ h => h) (Or.inl ⟨by rfl, ?_⟩) (by assumption) ?_
  rotate_left
  · (intro w hSw; (try dsimp only at hSw); first | (go_simp; done) | (go_simp; with_reducible rfl))
  try simp only [Act.put, List.setIfInBounds_toArray, List.set_cons_zero, List.set_cons_succ]
  refine wpAnyH_take (i := 14) (v := ?_) (takeL rfl) (by kernel_rfl) (by kernel_rfl) (by kernel_rfl) (fun _ _ _ h => h) (Or.inl ⟨by rfl, ?_⟩) (by assumption) ?_
  rotate_left
  · (intro w hSw; (try dsimp only at hSw); first | (go_simp; done) | (go_simp; with_reducible rfl))
  try simp only [Act.put, List.setIfInBounds_toArray, List.set_cons_zero, List.set_cons_succ]
  refine wpAnyH_ready (rs := [13]) (by kernel_rfl) (by simp) ?_
  refine AllReadyH.cons (takeL rfl) (fun K hK => ?_) AllReadyH.nil
  go_simp
  refine (wcheck_any k f s p fl d0 d1 rc lg mark am ab ac ag av nl kl nb kb nc kc ng kg nv kv live bs cl tags view B hBo (errno B) rfl _ (HL.out.below (bDrew (Below.refl _ _)))).mono ?_; rintro e w9 ⟨rfl, hB8⟩
  go_wp2_with fail
  refine hK.out _ _ (KEEP.out _ hB8) (fun hHeld => ?_)
  clear hK K
  refine wpAnyH_ready (rs := [15]) (by kernel_rfl) (by simp) ?_
  refine AllReadyH.cons (takeL rfl) (fun K hK => ?_) AllReadyH.nil
  go_simp
  refine (refwcheck_any k f s p fl d0 d1 rc lg mark am ab ac ag av nl kl nb kb nc kc ng kg nv kv live bs cl tags view B hBo (errno B) rfl _ (HL.out.below (bNext (bDrew (Below.refl _ _)) hB8))).mono ?_; rintro e wa ⟨rfl, hB9⟩
  go_wp2_with fail
  refine hK.out _ _ (KEEP.out _ (bNext hB8 hB9)) (fun hHeld => ?_)
  clear hK K
  refine wpAnyH_take (i := 16) (v := ?_) (takeL rfl) (by kernel_rfl) (by kernel_rfl) (by kernel_rfl) (fun _ _ _ h => h) (Or.inl ⟨by rfl, ?_⟩) (by assumption) ?_
  rotate_left
  · (intro w hSw; (try dsimp only at hSw); first | (go_simp; done) | (go_simp; with_reducible rfl))
  try simp only [Act.put, List.setIfInBounds_toArray, List.set_cons_zero, List.set_cons_succ]
  refine wpAnyH_take (i := 17) (v := ?_) (takeL rfl) (by kernel_rfl) (by kernel_rfl) (by kernel_rfl) (fun _ _ _ h => h) (Or.inl ⟨by rfl, ?_⟩) (by assumption) ?_
  rotate_left
  · (intro w hSw; (try dsimp only at hSw); first | (go_simp; done) | (go_simp; with_reducible rfl))
  try simp only [Act.put, List.setIfInBounds_toArray, List.set_cons_zero, List.set_cons_succ]
  refine wpAnyH_take (i := 18) (v := ?_) (takeL rfl) (by kernel_rfl) (by kernel_rfl) (by kernel_rfl) (fun _ _ _ h => h) (Or.inl ⟨by rfl, ?_⟩) (by assumption) ?_
  rotate_left
  · (intro w hSw; (try dsimp only at hSw); first | (go_simp; done) | (go_simp; with_reducible rfl))
  try simp only [Act.put, List.setIfInBounds_toArray, List.set_cons_zero, List.set_cons_succ]
  refine wpAnyH_done (by kernel_rfl) ?_ _
  go_wp2_with fail
  go_ret
  exact ⟨by simp, bNext (bDrew HB.out) (bNext hB8 hB9)⟩

namespace LWireSays
open Go.ChangeShapes Go.WideShapes Go.ChangeAt
open Go.ChangeMaps (open_string shut_string)

set_option maxRecDepth 100000 in
theorem contract (H : Type) (enc : TypeId × Value → H) (W : World) (base : Nat) (args : Array Value) (ds gs : List (DataW H)) (before : List MemPlace)
    (hval : ∀ (j : Nat) t v, Try.f3.params[j]? = some t → args[j]? = some v → Value.okWide Try.prog W .any base t v)
    (hW : DataW.Whole enc Try.prog Try.f3.params.toList Rows.wireSaysSpec.vars false W args.toList ds gs before)
    (_hsz : (DataW.weightsEach Try.prog (Try.f3.params.toList ++ (OpenSpec.ofChange Rows.wireSaysSpec).bare.plain.varTypes Try.prog) (ds ++ gs)).all (fun x => decide (x ≤ reachBytes)) = true) :
    Calls Try.prog 3 args W fun e W' => ∃ v, e = .returned v ∧ Rows.wireSaysSpec.post enc Try.prog Try.f3 false true false false W args v W' := by
  have hW' := hW
  obtain ⟨p, q, hA0, hV, rfl, hfz, hnd⟩ := hW
  have hA : DataW.TrodAll enc Try.prog W 0 (fun _ => true) true Try.f3.params.toList args.toList ds p := hA0
  rw [Try.params3] at hA hval
  obtain ⟨v0, vs0, d0, ds0, p0, q0, hargs, rfl, rfl, h0, r0⟩ := trodAll_cons hA
  obtain ⟨v1, vs1, d1, ds1, p1, q1, rfl, rfl, rfl, h1, r1⟩ := trodAll_cons r0
  obtain ⟨v2, vs2, d2, ds2, p2, q2, rfl, rfl, rfl, h2, r2⟩ := trodAll_cons r1
  obtain ⟨rfl, rfl, rfl⟩ := trodAll_nil r2
  obtain rfl : args = #[v0, v1, v2] := by cases args; simp_all
  obtain ⟨rfl, rfl⟩ := trodVars_none hV
  obtain ⟨k0, f0, s0, p0, fl0, da0, db0, rc0, lg0, mk0, am0, ab0, ac0, ag0, av0, nl0, kl0, nb0, kb0, nc0, kc0, ng0, kg0, nv0, kv0, lv0, bs0, cl0, tg0, vw0, rfl, ⟨la0, lb0, lc0, sa0⟩, ⟨ma0, mb0, mc0, sb0⟩, ⟨na0, nb'0, nc'0, sc0⟩, ⟨oa0, ob0, oc0, sd0⟩, ⟨pa0, pb0, pc0, se0⟩⟩ := open_wire (hval 0 33 v0 rfl rfl) h0
  obtain ⟨x1, rfl, rfl, rfl, k1⟩ := open_int Try.underlying3 (hval 1 3 v1 rfl rfl) h1
  obtain ⟨x2, rfl, rfl, rfl⟩ := open_bool Try.underlying4 (hval 2 4 v2 rfl rfl) h2
  clear hA0
  refine (wireSays_walk k0 f0 s0 p0 fl0 da0 db0 rc0 lg0 mk0 am0 ab0 ac0 ag0 av0 nl0 kl0 nb0 kb0 nc0 kc0 ng0 kg0 nv0 kv0 lv0 bs0 cl0 tg0 vw0 la0 ⟨ma0, mb0⟩ ⟨na0, nb'0⟩ oa0 ⟨pa0, pb0⟩ x1 x2 W sa0 sb0 sc0 sd0 se0).mono fun e W' ⟨he, hb⟩ => ?_
  subst he
  exact ⟨_, rfl, law_post laidOut Try.underlying4 rfl (by kernel_rfl) rfl rfl rfl rfl hW' hb⟩

theorem reads (os : Os) {H : Type} (enc : TypeId × Value → H) : ∃ places, DataW.whole enc Try.prog ((World.holding Try.prog os ⟨#[], #[], []⟩).forCall (fun _ _ => 0) ⟨#[], #[.agg #[.int .i64 0, .int .i64 0, .int .i64 0, .int .i64 0, .int .i64 0, .string .empty, .slice none 0 0, .slice none 0 0, .slice none 0 0, .slice none 0 0, .slice none 0 0, .int .i64 0, .int .i64 0, .int .i64 0, .int .i64 0], .int .i64 0, .bool false], []⟩).memory Try.f3.params.toList Rows.wireSaysSpec.vars false (#[.agg #[.int .i64 0, .int .i64 0, .int .i64 0, .int .i64 0, .int .i64 0, .string .empty, .slice none 0 0, .slice none 0 0, .slice none 0 0, .slice none 0 0, .slice none 0 0, .int .i64 0, .int .i64 0, .int .i64 0, .int .i64 0], .int .i64 0, .bool false] : Array Value).toList 8 = some ([.agg [.lit (.int .i64 0), .lit (.int .i64 0), .lit (.int .i64 0), .lit (.int .i64 0), .lit (.int .i64 0), .lit (.string []), .agg [.nil, .agg [.nil, .nil]], .nil, .nil, .agg [.lit (.int .i64 0), .lit (.int .i64 0)], .lit (.int .i64 0), .lit (.int .i64 0)], .lit (.int .i64 0), .lit (.bool false)], [], places) :=
  ⟨[], by kernel_rfl⟩
theorem laid_met (os : Os) : laidMet Try.prog Rows.wireSaysRow.laid ((World.holding Try.prog os ⟨#[], #[], []⟩).forCall (fun _ _ => 0) ⟨#[], #[.agg #[.int .i64 0, .int .i64 0, .int .i64 0, .int .i64 0, .int .i64 0, .string .empty, .slice none 0 0, .slice none 0 0, .slice none 0 0, .slice none 0 0, .slice none 0 0, .int .i64 0, .int .i64 0, .int .i64 0, .int .i64 0], .int .i64 0, .bool false], []⟩).memory :=
  laidMet_of_run' 8 (by kernel_rfl) (by kernel_rfl)

set_option maxRecDepth 100000 in
theorem lifted (os : Os) (started : os.Started) (H : Type) (enc : TypeId × Value → H) (F : Stop.Interp) :
    ReturnsInHanded {} Try.checked os 3 .any ((OpenSpec.ofChange Rows.wireSaysSpec).preRow enc Try.prog Try.f3 Rows.wireSaysRow.domain false Rows.wireSaysRow.laid) (((OpenSpec.ofChange Rows.wireSaysSpec).at F).post enc Try.prog Try.f3 false true false false) := by
  obtain ⟨places, hx⟩ := reads os enc
  refine returnsInHanded_of_row (C := Try.checked) (s := OpenSpec.ofChange Rows.wireSaysSpec) own started (by kernel_rfl) Try.func3
    (witness_row_at (enc := enc) (C := Try.checked) false (World.holding Try.prog os ⟨#[], #[], []⟩) #[.agg #[.int .i64 0, .int .i64 0, .int .i64 0, .int .i64 0, .int .i64 0, .string .empty, .slice none 0 0, .slice none 0 0, .slice none 0 0, .slice none 0 0, .slice none 0 0, .int .i64 0, .int .i64 0, .int .i64 0, .int .i64 0], .int .i64 0, .bool false] rfl (by kernel_rfl) (by kernel_rfl) (by kernel_rfl)
      (OpenSpec.preRow_of_cond 8 hx (by kernel_rfl) (fun k hk => by cases hk) (by kernel_rfl) (laid_met os))) ?_
  intro W base args ds gs before hval hW _ _ hsz hL _ _
  exact contract H enc W base args ds gs before hval hW hsz

theorem said : Rows.WireSaysSaid :=
  OpenClaim.holds_of_cond 3 Try.f3 rfl rfl rfl rfl rfl rfl rfl ⟨rfl, rfl, rfl, rfl, rfl⟩ rfl rfl rfl rfl rfl (by kernel_rfl) Try.func3 (by kernel_rfl)
    (of_decide_eq_true (by kernel_rfl)) (by unfold Func.isWrapper; first | (rw [if_pos (by decide +kernel)]; kernel_rfl) | (rw [if_neg (by decide +kernel)]; exact ⟨rfl, rfl⟩))
    (fun os started H enc _ F => by rw [OpenClaim.pre_eq_preRow]; exact lifted os started H enc F)
end LWireSays
end Go.Proofs.Ytfpjdmplepepjaa
