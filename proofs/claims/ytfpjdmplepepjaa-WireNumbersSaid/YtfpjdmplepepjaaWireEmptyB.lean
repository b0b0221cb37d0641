/- Wire, of what has no lists: a context's and a bag's bytes; what is read of them. -/
import Derived.Test.YtfpjdmplepepjaaWireEmpty
namespace Go.Proofs.Ytfpjdmplepepjaa
open Go.RowKit

set_option maxRecDepth 100000 in
set_option maxHeartbeats 2000000 in
theorem ctxb0 (w : World) : Calls Try.prog 58 #[.agg #[.slice none 0 0, .slice none 0 0]] w fun e w' => e = .returned (.string (ofL [0, 0])) ∧ Below w.heap.size w w' := by
  obtain ⟨w0, hw0⟩ := nm (w.alloc (.cells #[.slice none 0 0, .slice none 0 0] 25))
  obtain ⟨bx, hbx⟩ := nm w.heap.size
  have HB : Hid (Below w.heap.size w w0) := by rw [hw0.out]; exact bOld _
  have k1 : Blk w0 bx #[.slice none 0 0, .slice none 0 0] 25 := by rw [hw0.out, hbx.out]; exact Blk.new w _ _
  have c0 : w0.cell? ⟨bx, 0, none⟩ = some (.slice none 0 0) := k1.cell 0
  have c1 : w0.cell? ⟨bx, 1, none⟩ = some (.slice none 0 0) := k1.cell 1
  have hlt : bx < w0.heap.size := k1.lt
  have HK : Hid (∀ wa : World, Below w0.drew.heap.size w0.drew wa → wa.cell? ⟨bx, 0, none⟩ = some (.slice none 0 0) ∧ wa.cell? ⟨bx, 1, none⟩ = some (.slice none 0 0)) := by show ∀ wa : World, _; intro wa h; exact ⟨(h.cell (p := ⟨bx, 0, none⟩) hlt).trans c0, (h.cell (p := ⟨bx, 1, none⟩) hlt).trans c1⟩
  obtain ⟨z1, hz1⟩ := nm (ofL [0])
  have hap : Hid (z1 ++ z1 = ofL [0, 0]) := by show _ = _; rw [hz1.out, ofL_append]; rfl
  have hT : True := trivial
  have HR : Hid (∀ w, Calls Try.prog 93 #[.slice none 0 0] w fun e w' => e = .returned (.string z1) ∧ Below w.heap.size w w') := by intro w; rw [hz1.out]; exact row0 w
  have l3 : z1.size + z1.size ≤ 9223372036854775807 := by rw [hz1.out, ofL_size]; decide
  have hadd := fun w : World => run_string_add_sum (P := Try.prog) w z1 z1 l3
  go_enter Try.func58, Try.ntmps58
  go_upto_region 1 with fail
  rw [← hw0.out, ← hbx.out]
  go_region_held3 (fun w' => w'.cell? ⟨bx, 0, none⟩ = some (.slice none 0 0) ∧ w'.cell? ⟨bx, 1, none⟩ = some (.slice none 0 0))
    (first
      | exact HK.out _ (bNext hBa hBb)
      | exact HK.out _ hBa
      | exact ⟨cell_dr c0, cell_dr c1⟩
      | exact ⟨c0, c1⟩)
    (first
      | (go_at_call 93; clear hT; with_reducible (refine (HR.out _).mono ?_); rintro e wa ⟨rfl, hBa⟩)
      | (go_at_call 93; with_reducible (refine (HR.out _).mono ?_); rintro e wb ⟨rfl, hBb⟩))
  all_goals (go_wp2_with fail; go_ret; exact ⟨congrArg (fun t => Ending.returned (Value.string t)) hap.out, bNext (bDrew HB.out) (bNext hBa hBb)⟩)

set_option maxRecDepth 100000 in
set_option maxHeartbeats 2000000 in
theorem bagb0 (w : World) : Calls Try.prog 23 #[.agg #[.slice none 0 0, .slice none 0 0, .slice none 0 0]] w fun e w' => e = .returned (.string (ofL [0, 0, 0])) ∧ Below w.heap.size w w' := by
  obtain ⟨w0, hw0⟩ := nm ((w.alloc (.cells #[.slice none 0 0, .slice none 0 0, .slice none 0 0] 27)).alloc (.cells #[.pointer none, .slice none 0 0] 91))
  obtain ⟨bx, hbx⟩ := nm w.heap.size
  have HB : Hid (Below w.heap.size w w0) := by rw [hw0.out]; exact bNew (bOld _) _
  have k1 : Blk w0 bx #[.slice none 0 0, .slice none 0 0, .slice none 0 0] 27 := by rw [hw0.out, hbx.out]; exact (Blk.new w _ _).alloc _
  have hbd := bnew (w.alloc (.cells #[.slice none 0 0, .slice none 0 0, .slice none 0 0] 27))
  rw [← hw0.out, show (w.alloc (.cells #[.slice none 0 0, .slice none 0 0, .slice none 0 0] 27)).heap.size = bx + 1 from by rw [hbx.out]; simp] at hbd
  have hs0 : w0.heap.size = bx + 2 := by rw [hw0.out, hbx.out]; simp
  have hle : bx + 1 ≤ w0.drew.heap.size := by show bx + 1 ≤ w0.heap.size; omega
  have hbd2 : Lib.IsBuilder 91 5 (bx + 1) (bx + 1) (Lib.byteCells []) w0.drew := bstays hbd (bDrew (Below.refl _ _))
  have HBD := Lib.hid hbd2
  have c0 : w0.cell? ⟨bx, 0, none⟩ = some (.slice none 0 0) := k1.cell 0
  have c1 : w0.cell? ⟨bx, 1, none⟩ = some (.slice none 0 0) := k1.cell 1
  have c2 : w0.cell? ⟨bx, 2, none⟩ = some (.slice none 0 0) := k1.cell 2
  have HK : Hid (∀ wa : World, Below (bx + 1) w0.drew wa → wa.cell? ⟨bx, 0, none⟩ = some (.slice none 0 0) ∧ wa.cell? ⟨bx, 1, none⟩ = some (.slice none 0 0) ∧ wa.cell? ⟨bx, 2, none⟩ = some (.slice none 0 0)) := by show ∀ wa : World, _; intro wa h; exact ⟨(h.cell (p := ⟨bx, 0, none⟩) (Nat.lt_succ_self bx)).trans c0, (h.cell (p := ⟨bx, 1, none⟩) (Nat.lt_succ_self bx)).trans c1, (h.cell (p := ⟨bx, 2, none⟩) (Nat.lt_succ_self bx)).trans c2⟩
  obtain ⟨z1, hz1⟩ := nm (ofL [0])
  obtain ⟨z2, hz2⟩ := nm (ofL [0, 0])
  have hap : Hid (Lib.byteCells ([] ++ bl (z2 ++ z1)) = Lib.byteCells [0, 0, 0]) := by show _ = _; rw [hz1.out, hz2.out, ofL_append, bl_ofL]; rfl
  have HSZ : Hid (([] : List UInt8).length + (z2 ++ z1).size ≤ 140737488355328) := by show _ ≤ _; rw [hz1.out, hz2.out, ofL_append, ofL_size]; decide
  have HI : Hid (∀ w, Calls Try.prog 55 #[.int .i64 0] w fun e w' => e = .returned (.string z1) ∧ Below w.heap.size w w') := by intro w; rw [hz1.out]; exact int0 w
  have HC : Hid (∀ w, Calls Try.prog 58 #[.agg #[.slice none 0 0, .slice none 0 0]] w fun e w' => e = .returned (.string z2) ∧ Below w.heap.size w w') := by intro w; rw [hz2.out]; exact ctxb0 w
  have l3 : z2.size + z1.size ≤ 9223372036854775807 := by rw [hz1.out, hz2.out, ofL_size, ofL_size]; decide
  have hadd := fun w : World => run_string_add_sum (P := Try.prog) w z2 z1 l3
  clear hbd hbd2
  go_enter Try.func23, Try.ntmps23
  go_upto_region 2 with fail
  rw [← hw0.out, ← hbx.out]
  go_region_held3 (fun w' => w'.cell? ⟨bx, 0, none⟩ = some (.slice none 0 0) ∧ w'.cell? ⟨bx, 1, none⟩ = some (.slice none 0 0) ∧ w'.cell? ⟨bx, 2, none⟩ = some (.slice none 0 0))
    (first
      | exact HK.out _ (((bNext hBa hBb).mono hle).trans hBc)
      | exact HK.out _ (((bNext hBb hBa).mono hle).trans hBc)
      | exact HK.out _ ((bNext hBa hBb).mono hle)
      | exact HK.out _ ((bNext hBb hBa).mono hle)
      | exact HK.out _ (hBa.mono hle)
      | exact HK.out _ (hBb.mono hle)
      | exact ⟨cell_dr c0, cell_dr c1, cell_dr c2⟩
      | exact ⟨c0, c1, c2⟩)
    (first
      | (go_at_call 58; with_reducible (refine (HC.out _).mono ?_); rintro e wa ⟨rfl, hBa⟩)
      | (go_at_call 55; with_reducible (refine (HI.out _).mono ?_); rintro e wb ⟨rfl, hBb⟩)
      | (go_at_call 54; refine (bwrite_any (bx + 1) (bx + 1) [] _ _ (bstays (bstays HBD.out hBa) hBb) HSZ.out (Nat.le_trans hle (bNext hBa hBb).size)).mono ?_; rintro e wc ⟨rfl, hbc, hBc⟩)
      | (go_at_call 54; refine (bwrite_any (bx + 1) (bx + 1) [] _ _ (bstays (bstays HBD.out hBb) hBa) HSZ.out (Nat.le_trans hle (bNext hBb hBa).size)).mono ?_; rintro e wc ⟨rfl, hbc, hBc⟩))
  have hBt : Below (bx + 1) w0.drew wc := by first | exact ((bNext hBa hBb).mono hle).trans hBc | exact ((bNext hBb hBa).mono hle).trans hBc
  have hBw : Below w.heap.size w wc := (bDrew HB.out).trans (hBt.mono (by rw [hbx.out]; omega))
  obtain ⟨e0, e1, e2⟩ := HK.out _ hBt
  rw [hap.out] at hbc
  have hle2 : bx + 1 ≤ wc.heap.size := Nat.le_trans hle hBt.size
  have HBC := Lib.hid hbc
  have HBW := Lib.hid hBw
  clear hBa hBb hBc hBt hBw hbc
  go_wp2_with fail
  refine wp_loop_rounds 1 ?_
  rw [rounds_succ]
  go_wp2_with fail
  refine (Try.Builder_String_any _ _ _ _ HBC.out hle2).mono ?_; rintro e w3 ⟨rfl, h1⟩
  have HF := Lib.hid (HBW.out.trans (h1.mono (by rw [hbx.out]; omega)))
  go_wp2_with fail
  go_ret
  exact ⟨rfl, HF.out⟩

theorem rzero_any (b : Nat) (t : List UInt8) (most : Int) (w : World) (hr : IsRd w b ⟨ofL (0 :: t), false⟩) (hs : t.length ≤ 1000000) (h0 : 0 ≤ most) (hm : most ≤ 9223372036854775807) :
    Calls Try.prog 77 #[.pointer (some ⟨b, 0, none⟩), .int .i64 most] w fun e w' => e = .returned (.int .i64 0) ∧ IsRd w' b ⟨ofL t, false⟩ ∧ Kept b w w' := by
  have h := rint_any b ⟨ofL (0 :: t), false⟩ most w hr (by simp only [ofL_size, List.length_cons]; omega) hm
  have e := Rd.int_back 0 most (by decide) h0 t
  rw [num0] at e
  rw [show (0 :: t : List UInt8) = [0] ++ t from rfl] at h
  rw [e] at h
  exact h
theorem fine0 (b : Nat) (t : List UInt8) (w : World) (hr : IsRd w b ⟨ofL t, false⟩) : Calls Try.prog 78 #[.pointer (some ⟨b, 0, none⟩)] w fun e w' => e = .returned (.bool true) ∧ w = w' := fine_is false true rfl b _ w hr
set_option maxRecDepth 100000 in
set_option maxHeartbeats 2000000 in
theorem rrow0 (b : Nat) (t : List UInt8) (w : World) (hr : IsRd w b ⟨ofL (0 :: t), false⟩) (hs : t.length ≤ 1000000) :
    Calls Try.prog 105 #[.pointer (some ⟨b, 0, none⟩), .int .i64 1000] w fun e w' => e = .returned (.slice none 0 0) ∧ IsRd w' b ⟨ofL t, false⟩ ∧ Kept b w w' := by
  go_enter Try.func105, Try.ntmps105
  go_wp2_with fail
  refine (rzero_any b t _ _ hr hs (by decide) (by decide)).mono ?_; rintro e w1 ⟨rfl, h1, hk⟩
  go_wp2_with fail
  refine wp_loop_rounds 1 ?_
  rw [rounds_succ]
  go_wp2_with (first | (go_at_call 78; refine (fine0 b t _ h1).mono ?_; rintro e w2 ⟨rfl, rfl⟩) | (go_at_call 98; refine (rises0 _).mono ?_; rintro e w2 ⟨rfl, rfl⟩))
  go_ret
  exact ⟨rfl, h1, hk⟩

set_option maxRecDepth 100000 in
set_option maxHeartbeats 2000000 in
theorem rnames0 (b : Nat) (t : List UInt8) (w : World) (hr : IsRd w b ⟨ofL (0 :: t), false⟩) (hs : t.length ≤ 1000000) :
    Calls Try.prog 40 #[.pointer (some ⟨b, 0, none⟩)] w fun e w' => e = .returned (.slice none 0 0) ∧ IsRd w' b ⟨ofL t, false⟩ ∧ Kept b w w' := by
  go_enter Try.func40, Try.ntmps40
  go_wp2_with fail
  refine (rzero_any b t _ _ hr hs (by decide) (by decide)).mono ?_; rintro e w1 ⟨rfl, h1, hk⟩
  go_wp2_with fail
  refine wp_loop_rounds 1 ?_
  rw [rounds_succ]
  go_wp2_with (first | (go_at_call 78; refine (fine0 b t _ h1).mono ?_; rintro e w2 ⟨rfl, rfl⟩) | (go_at_call 30; refine (names0 _).mono ?_; rintro e w2 ⟨rfl, rfl⟩))
  go_ret
  exact ⟨rfl, h1, hk⟩

set_option maxRecDepth 100000 in
set_option maxHeartbeats 2000000 in
theorem rview0 (b : Nat) (t : List UInt8) (w : World) (hr : IsRd w b ⟨ofL (0 :: t), false⟩) (hs : t.length ≤ 1000000) :
    Calls Try.prog 41 #[.pointer (some ⟨b, 0, none⟩)] w fun e w' => e = .returned (.slice none 0 0) ∧ IsRd w' b ⟨ofL t, false⟩ ∧ Kept b w w' := by
  go_enter Try.func41, Try.ntmps41
  go_wp2_with fail
  refine (rzero_any b t _ _ hr hs (by decide) (by decide)).mono ?_; rintro e w1 ⟨rfl, h1, hk⟩
  go_wp2_with fail
  refine wp_loop_rounds 1 ?_
  rw [rounds_succ]
  go_wp2_with (first | (go_at_call 78; refine (fine0 b t _ h1).mono ?_; rintro e w2 ⟨rfl, rfl⟩) | (go_at_call 31; refine (views0 _).mono ?_; rintro e w2 ⟨rfl, rfl⟩))
  go_ret
  exact ⟨rfl, h1, hk⟩

end Go.Proofs.Ytfpjdmplepepjaa
