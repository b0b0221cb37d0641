/- DotOrder: for every three names the law returns true. -/
import Derived.Test.YthhcooabfgegaaaDotAwake
import Derived.Test.YthhcooabfgegaaaLaw
import Derived.Outline
namespace Go.Proofs.Ythhcooabfgegaaa
open Go.RowKit Go.Shelf Go.Lib Go.Sort

theorem less_is (x1 x2 y1 y2 : Int) (b : Bool) (hb : Hid (decide (ltP (x1, x2) (y1, y2)) = b)) (w : World) :
    Calls Try.prog 10 #[.agg #[.int .i64 x1, .int .i64 x2], .agg #[.int .i64 y1, .int .i64 y2]] w fun e w' => e = .returned (.bool b) ∧ Below w.heap.size w w' := by
  rw [← hb.out]; exact less_any x1 x2 y1 y2 w

set_option maxRecDepth 100000 in
set_option maxHeartbeats 4000000 in
theorem dotOrder_at (a1 a2 b1 b2 c1 c2 : Int) (x y z s t : Bool) (hx : Hid (decide (ltP (a1, a2) (b1, b2)) = x)) (hy : Hid (decide (ltP (b1, b2) (a1, a2)) = y)) (hz : Hid (decide ((a1, a2) = (b1, b2)) = z)) (hs : Hid (decide (ltP (b1, b2) (c1, c2)) = s)) (ht : Hid (decide (ltP (a1, a2) (c1, c2)) = t))
    (hg : ((x && !y && !z) || (!x && y && !z) || (!x && !y && z)) = true) (hg2 : (!x || !s || t) = true) (w : World) :
    Calls Try.prog 3 #[.agg #[.int .i64 a1, .int .i64 a2], .agg #[.int .i64 b1, .int .i64 b2], .agg #[.int .i64 c1, .int .i64 c2]] w fun e w' => e = .returned (.bool true) ∧ Below w.heap.size w w' := by
  have hA : Blk (((w.alloc (.cells #[.int .i64 a1, .int .i64 a2] 23)).alloc (.cells #[.int .i64 b1, .int .i64 b2] 23)).alloc (.cells #[.int .i64 c1, .int .i64 c2] 23)) w.heap.size #[.int .i64 a1, .int .i64 a2] 23 := ((Blk.new _ _ _).alloc _).alloc _
  have hB : Blk (((w.alloc (.cells #[.int .i64 a1, .int .i64 a2] 23)).alloc (.cells #[.int .i64 b1, .int .i64 b2] 23)).alloc (.cells #[.int .i64 c1, .int .i64 c2] 23)) (w.heap.size + 1) #[.int .i64 b1, .int .i64 b2] 23 := by
    have := (Blk.new (w.alloc (.cells #[.int .i64 a1, .int .i64 a2] 23)) #[.int .i64 b1, .int .i64 b2] 23).alloc (.cells #[.int .i64 c1, .int .i64 c2] 23)
    simpa using this
  have hC : Blk (((w.alloc (.cells #[.int .i64 a1, .int .i64 a2] 23)).alloc (.cells #[.int .i64 b1, .int .i64 b2] 23)).alloc (.cells #[.int .i64 c1, .int .i64 c2] 23)) (w.heap.size + 1 + 1) #[.int .i64 c1, .int .i64 c2] 23 := by
    have := Blk.new ((w.alloc (.cells #[.int .i64 a1, .int .i64 a2] 23)).alloc (.cells #[.int .i64 b1, .int .i64 b2] 23)) #[.int .i64 c1, .int .i64 c2] 23
    simpa using this
  have hB0 : Below w.heap.size w (((w.alloc (.cells #[.int .i64 a1, .int .i64 a2] 23)).alloc (.cells #[.int .i64 b1, .int .i64 b2] 23)).alloc (.cells #[.int .i64 c1, .int .i64 c2] 23)) := bNew (bNew (bOld _) _) _
  obtain ⟨w0, hw0⟩ := nm (((w.alloc (.cells #[.int .i64 a1, .int .i64 a2] 23)).alloc (.cells #[.int .i64 b1, .int .i64 b2] 23)).alloc (.cells #[.int .i64 c1, .int .i64 c2] 23))
  rw [← hw0.out] at hA hB hC hB0
  obtain ⟨p, hp⟩ := nm w.heap.size
  rw [← hp.out] at hA hB hC
  have hF : ∀ w' : World, Below w0.heap.size w0 w' → (w'.cell? ⟨p, 0, none⟩ = some (.int .i64 a1) ∧ w'.cell? ⟨p, 1, none⟩ = some (.int .i64 a2)) ∧ (w'.cell? ⟨p + 1, 0, none⟩ = some (.int .i64 b1) ∧ w'.cell? ⟨p + 1, 1, none⟩ = some (.int .i64 b2)) ∧ (w'.cell? ⟨p + 1 + 1, 0, none⟩ = some (.int .i64 c1) ∧ w'.cell? ⟨p + 1 + 1, 1, none⟩ = some (.int .i64 c2)) :=
    fun w' h => ⟨⟨(hA.below h hA.lt).cell 0, (hA.below h hA.lt).cell 1⟩, ⟨(hB.below h hB.lt).cell 0, (hB.below h hB.lt).cell 1⟩, ⟨(hC.below h hC.lt).cell 0, (hC.below h hC.lt).cell 1⟩⟩
  have HF := Lib.hid hF
  have HB0 := Lib.hid hB0
  clear hA hB hC hF hB0
  have heq := fun w => eqlD a1 a2 b1 b2 z hz.out w
  have HEQ := Lib.hid heq
  clear heq
  go_enter Try.func3, Try.ntmps3
  go_wp2_with fail
  rw [← hp.out, ← hw0.out]
  refine (awake_any _).mono ?_; rintro e w1 ⟨rfl, hB1⟩
  obtain ⟨⟨g1, g2⟩, ⟨g3, g4⟩, ⟨g5, g6⟩⟩ := HF.out _ hB1
  go_wp2_with fail
  refine (less_is a1 a2 b1 b2 x hx _).mono ?_; rintro e w2 ⟨rfl, hB2⟩
  clear g1 g2 g3 g4 g5 g6
  replace hB1 := bNext hB1 hB2
  obtain ⟨⟨g1, g2⟩, ⟨g3, g4⟩, ⟨g5, g6⟩⟩ := HF.out _ hB1
  go_wp2_with fail
  refine (less_is b1 b2 a1 a2 y hy _).mono ?_; rintro e w3 ⟨rfl, hB3⟩
  clear g1 g2 g3 g4 g5 g6
  replace hB1 := bNext hB1 hB3
  obtain ⟨⟨g1, g2⟩, ⟨g3, g4⟩, ⟨g5, g6⟩⟩ := HF.out _ hB1
  have heq := HEQ.out
  have hgd := fun (a b : Operand) (w : World) => guardD .eql a b #[.int .i64 a1, .int .i64 a2] #[.int .i64 b1, .int .i64 b2] w
  clear hB2 hB3
  cases x <;> cases y <;> cases z <;> cases s <;> cases t <;> simp at hg hg2
  all_goals
    go_wp2_with fail
    refine (less_is a1 a2 b1 b2 _ hx _).mono ?_; rintro e w4 ⟨rfl, hB4⟩
    clear g1 g2 g3 g4 g5 g6
    replace hB1 := bNext hB1 hB4
    obtain ⟨⟨g1, g2⟩, ⟨g3, g4⟩, ⟨g5, g6⟩⟩ := HF.out _ hB1
    go_wp2_with fail
    first
      | (go_ret; exact ⟨rfl, bNext HB0.out hB1⟩)
      | ((with_reducible refine (less_is b1 b2 c1 c2 _ hs _).mono ?_); rintro e w5 ⟨rfl, hB5⟩
         clear g1 g2 g3 g4 g5 g6
         replace hB1 := bNext hB1 hB5
         obtain ⟨⟨g1, g2⟩, ⟨g3, g4⟩, ⟨g5, g6⟩⟩ := HF.out _ hB1
         go_wp2_with fail
         first
           | (go_ret; exact ⟨rfl, bNext HB0.out hB1⟩)
           | ((with_reducible refine (less_is a1 a2 c1 c2 _ ht _).mono ?_); rintro e w6 ⟨rfl, hB6⟩
              replace hB1 := bNext hB1 hB6
              go_wp2_with fail
              go_ret
              exact ⟨rfl, bNext HB0.out hB1⟩))

theorem dotOrder_walk (a1 a2 b1 b2 c1 c2 : Int) (w : World) :
    Calls Try.prog 3 #[.agg #[.int .i64 a1, .int .i64 a2], .agg #[.int .i64 b1, .int .i64 b2], .agg #[.int .i64 c1, .int .i64 c2]] w fun e w' => e = .returned (.bool true) ∧ Below w.heap.size w w' := by
  refine dotOrder_at a1 a2 b1 b2 c1 c2 _ _ _ _ _ rfl rfl rfl rfl rfl ?_ ?_ w
  · rcases ltP_total (a1, a2) (b1, b2) with h | h | h
    · have h2 := ltP_asymm h
      have h3 : ¬ (a1, a2) = (b1, b2) := fun e => ltP_irrefl _ (e ▸ h)
      simp only [h, h2, h3]; decide
    · have h2 : ¬ ltP (a1, a2) (b1, b2) := fun e => ltP_irrefl _ (h ▸ e)
      have h3 : ¬ ltP (b1, b2) (a1, a2) := fun e => ltP_irrefl _ (h ▸ e)
      simp only [h2, h3]
      simp [h]
    · have h2 := ltP_asymm h
      have h3 : ¬ (a1, a2) = (b1, b2) := fun e => ltP_irrefl _ (e ▸ h)
      simp only [h, h2, h3]; decide
  · by_cases h1 : ltP (a1, a2) (b1, b2)
    · by_cases h2 : ltP (b1, b2) (c1, c2)
      · have h3 := ltP_trans h1 h2
        simp [h3]
      · simp [h2]
    · simp [h1]
namespace LDotOrder
open Go.ChangeShapes Go.WideShapes Go.ChangeAt
open Go.ChangeMaps (open_string shut_string)

set_option maxRecDepth 100000 in
theorem contract (H : Type) (enc : TypeId × Value → H) (W : World) (base : Nat) (args : Array Value) (ds gs : List (DataW H)) (before : List MemPlace)
    (hval : ∀ (j : Nat) t v, Try.f3.params[j]? = some t → args[j]? = some v → Value.okWide Try.prog W .any base t v)
    (hW : DataW.Whole enc Try.prog Try.f3.params.toList Rows.dotOrderSpec.vars false W args.toList ds gs before)
    (_hsz : (DataW.weightsEach Try.prog (Try.f3.params.toList ++ (OpenSpec.ofChange Rows.dotOrderSpec).bare.plain.varTypes Try.prog) (ds ++ gs)).all (fun x => decide (x ≤ reachBytes)) = true) :
    Calls Try.prog 3 args W fun e W' => ∃ v, e = .returned v ∧ Rows.dotOrderSpec.post enc Try.prog Try.f3 false true false false W args v W' := by
  have hW' := hW
  obtain ⟨p, q, hA0, hV, rfl, hfz, hnd⟩ := hW
  have hA : DataW.TrodAll enc Try.prog W 0 (fun _ => true) true Try.f3.params.toList args.toList ds p := hA0
  rw [Try.params3] at hA hval
  obtain ⟨v0, vs0, d0, ds0, p0, q0, hargs, rfl, rfl, h0, r0⟩ := trodAll_cons hA
  obtain ⟨v1, vs1, d1, ds1, p1, q1, rfl, rfl, rfl, h1, r1⟩ := trodAll_cons r0
  obtain ⟨v2, vs2, d2, ds2, p2, q2, rfl, rfl, rfl, h2, r2⟩ := trodAll_cons r1
  obtain ⟨rfl, rfl, rfl⟩ := trodAll_nil r2
  obtain rfl : args = #[v0, v1, v2] := by cases args; simp_all
  obtain ⟨rfl, rfl⟩ := trodVars_none hV
  obtain ⟨c0, c1, y0, y1, m0, rfl, rfl, rfl, hy0, hy1⟩ := Joins.open_agg2 Try.underlying23 (by kernel_rfl) (show Try.prog.cellsOf 23 = 2 by kernel_rfl) (hval 0 23 v0 rfl rfl) h0
  obtain ⟨z0_0, e0, _, wf0_0⟩ := DataW.trod_int Try.underlying3 hy0
  obtain ⟨z0_1, e1, _, wf0_1⟩ := DataW.trod_int Try.underlying3 hy1
  simp at e0 e1
  subst e0 e1
  obtain ⟨c0, c1, y0, y1, m1, rfl, rfl, rfl, hy0, hy1⟩ := Joins.open_agg2 Try.underlying23 (by kernel_rfl) (show Try.prog.cellsOf 23 = 2 by kernel_rfl) (hval 1 23 v1 rfl rfl) h1
  obtain ⟨z1_0, e0, _, wf1_0⟩ := DataW.trod_int Try.underlying3 hy0
  obtain ⟨z1_1, e1, _, wf1_1⟩ := DataW.trod_int Try.underlying3 hy1
  simp at e0 e1
  subst e0 e1
  obtain ⟨c0, c1, y0, y1, m2, rfl, rfl, rfl, hy0, hy1⟩ := Joins.open_agg2 Try.underlying23 (by kernel_rfl) (show Try.prog.cellsOf 23 = 2 by kernel_rfl) (hval 2 23 v2 rfl rfl) h2
  obtain ⟨z2_0, e0, _, wf2_0⟩ := DataW.trod_int Try.underlying3 hy0
  obtain ⟨z2_1, e1, _, wf2_1⟩ := DataW.trod_int Try.underlying3 hy1
  simp at e0 e1
  subst e0 e1
  clear hA0
  refine (dotOrder_walk z0_0 z0_1 z1_0 z1_1 z2_0 z2_1 W).mono fun e W' ⟨he, hb⟩ => ?_
  subst he
  exact ⟨_, rfl, law_post laidOut Try.underlying4 rfl (by kernel_rfl) rfl rfl rfl rfl hW' hb⟩

theorem reads (os : Os) {H : Type} (enc : TypeId × Value → H) : ∃ places, DataW.whole enc Try.prog ((World.holding Try.prog os ⟨#[], #[], []⟩).forCall (fun _ _ => 0) ⟨#[], #[.agg #[.int .i64 0, .int .i64 0], .agg #[.int .i64 0, .int .i64 0], .agg #[.int .i64 0, .int .i64 0]], []⟩).memory Try.f3.params.toList Rows.dotOrderSpec.vars false (#[.agg #[.int .i64 0, .int .i64 0], .agg #[.int .i64 0, .int .i64 0], .agg #[.int .i64 0, .int .i64 0]] : Array Value).toList 8 = some ([.agg [.lit (.int .i64 0), .lit (.int .i64 0)], .agg [.lit (.int .i64 0), .lit (.int .i64 0)], .agg [.lit (.int .i64 0), .lit (.int .i64 0)]], [], places) :=
  ⟨[], by kernel_rfl⟩
theorem laid_met (os : Os) : laidMet Try.prog Rows.dotOrderRow.laid ((World.holding Try.prog os ⟨#[], #[], []⟩).forCall (fun _ _ => 0) ⟨#[], #[.agg #[.int .i64 0, .int .i64 0], .agg #[.int .i64 0, .int .i64 0], .agg #[.int .i64 0, .int .i64 0]], []⟩).memory :=
  laidMet_of_run' 8 (by kernel_rfl) (by kernel_rfl)

set_option maxRecDepth 100000 in
theorem lifted (os : Os) (started : os.Started) (H : Type) (enc : TypeId × Value → H) (F : Stop.Interp) :
    ReturnsInHanded {} Try.checked os 3 .any ((OpenSpec.ofChange Rows.dotOrderSpec).preRow enc Try.prog Try.f3 Rows.dotOrderRow.domain false Rows.dotOrderRow.laid) (((OpenSpec.ofChange Rows.dotOrderSpec).at F).post enc Try.prog Try.f3 false true false false) := by
  obtain ⟨places, hx⟩ := reads os enc
  refine returnsInHanded_of_row (C := Try.checked) (s := OpenSpec.ofChange Rows.dotOrderSpec) own started (by kernel_rfl) Try.func3
    (witness_row_at (enc := enc) (C := Try.checked) false (World.holding Try.prog os ⟨#[], #[], []⟩) #[.agg #[.int .i64 0, .int .i64 0], .agg #[.int .i64 0, .int .i64 0], .agg #[.int .i64 0, .int .i64 0]] rfl (by kernel_rfl) (by kernel_rfl) (by kernel_rfl)
      (OpenSpec.preRow_of_cond 8 hx (by kernel_rfl) (fun k hk => by cases hk) (by kernel_rfl) (laid_met os))) ?_
  intro W base args ds gs before hval hW _ _ hsz hL _ _
  exact contract H enc W base args ds gs before hval hW hsz

theorem said : Rows.DotOrderSaid :=
  OpenClaim.holds_of_cond 3 Try.f3 rfl rfl rfl rfl rfl rfl rfl ⟨rfl, rfl, rfl, rfl, rfl⟩ rfl rfl rfl rfl rfl (by kernel_rfl) Try.func3 (by kernel_rfl)
    (of_decide_eq_true (by kernel_rfl)) (by unfold Func.isWrapper; first | (rw [if_pos (by decide +kernel)]; kernel_rfl) | (rw [if_neg (by decide +kernel)]; exact ⟨rfl, rfl⟩))
    (fun os started H enc _ F => by rw [OpenClaim.pre_eq_preRow]; exact lifted os started H enc F)
end LDotOrder
end Go.Proofs.Ythhcooabfgegaaa
