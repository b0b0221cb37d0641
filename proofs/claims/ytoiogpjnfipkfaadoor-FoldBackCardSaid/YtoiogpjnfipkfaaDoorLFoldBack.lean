/- FoldBack: for every row of bodies, and whatever stands behind, the law returns true (the table of four doublings lying in its variable as the program's text lays it). -/
import Derived.Test.YtoiogpjnfipkfaaDoorFoldAwake
import Derived.Test.YtoiogpjnfipkfaaDoorFoldLaid
import Derived.Test.YtoiogpjnfipkfaaDoorAll
import Derived.Test.YtoiogpjnfipkfaaDoorSameTexts
import Derived.Test.YtoiogpjnfipkfaaDoorCards
import Derived.Test.YtoiogpjnfipkfaaDoorTie
namespace Go.Proofs.YtoiogpjnfipkfaaDoor
open Go.RowKit

/-- Bodies, framed one behind another. -/
def joinF (l : List (List UInt8)) : List UInt8 := l.flatMap frameL
theorem joinF_snoc (l : List (List UInt8)) (b : List UInt8) : joinF (l ++ [b]) = joinF l ++ frameL b := by simp [joinF]
theorem joinF_cons (l : List (List UInt8)) (b : List UInt8) : joinF (b :: l) = frameL b ++ joinF l := by simp [joinF]
theorem allF_join : ∀ (l : List (List UInt8)) (f : Nat), l.length < f → (∀ b ∈ l, b.length ≤ 8000) → allF f (joinF l) = (l, (joinF l).length)
  | [], f + 1, _, _ => by
    have h : (cutL []).2.2 = 12 := by decide +kernel
    show allF (f + 1) [] = ([], 0)
    rw [allF, if_neg (by rw [h]; decide)]
  | b :: l, f + 1, h, hb => by
    have hc := cut_back b (joinF l) (hb b (by simp))
    rw [joinF_cons, allF, hc]
    simp only
    rw [if_pos trivial, List.drop_left' rfl, allF_join l f (by simpa using h) (fun x hx => hb x (by simp [hx])), List.length_append]
theorem joinF_le (l : List (List UInt8)) (h : ∀ b ∈ l, b.length ≤ 100) : (joinF l).length ≤ 103 * l.length ∧ l.length ≤ (joinF l).length := by
  induction l with
  | nil => exact ⟨Nat.le_refl _, Nat.le_refl _⟩
  | cons b l ih =>
    have h1 := ih (fun x hx => h x (by simp [hx]))
    have h2 := frame_length b
    have h3 := h b (by simp)
    rw [nd_one (by omega)] at h2
    rw [joinF_cons, List.length_append, List.length_cons]
    omega

set_option maxRecDepth 100000 in
set_option maxHeartbeats 8000000 in
theorem foldBack_walk (ao : Option Addr) (len cap : Nat) (ss : List ByteArray) (hl : ss.length = len) (rest : ByteArray) (w : World) (ht : Tab w) (hat : SlAt w ao (ss.map Value.string)) :
    Calls Tryd.prog 8 #[.slice ao len cap, .string rest] w fun e w' => e = .returned (.bool true) ∧ Below w.heap.size w w' := by
  have HT : Hid (Tab w) := ht
  have HAT := Lib.hid hat
  have HL := Lib.hid hl
  clear ht hat hl
  obtain ⟨bs, hbs⟩ := nm (ss.map fun x => (bl x).take 100)
  have hbl : bs.length = len := by rw [hbs.out, List.length_map, HL.out]
  have hb100 : ∀ b ∈ bs, b.length ≤ 100 := by
    rw [hbs.out]
    intro b hb
    obtain ⟨x, _, rfl⟩ := List.mem_map.1 hb
    exact List.length_take_le _ _
  have HB := Lib.hid hb100
  have HBL := Lib.hid hbl
  clear hb100 hbl
  obtain ⟨r, hr⟩ := nm (ofL ((bl rest).take 50))
  have hrs : r.size ≤ 50 := by rw [hr.out, ofL_size]; exact List.length_take_le _ _
  obtain ⟨i0, hi, hz0, hz1, hz2⟩ := info_parts infoStr
  go_enter Tryd.func8, Tryd.ntmps8
  go_wp2_with fail
  refine (awake_any _ HT.out).mono ?_; rintro e w1 ⟨rfl, hB⟩
  go_wp2_with fail
  go_loopw [6, 7, 8] (fun t v i wr => ∃ (k : Nat) (S : ByteArray), k ≤ 8 ∧ k ≤ len ∧ i = .int .i64 (k : Int) ∧ t = .string S ∧ Hid (S = ofL (joinF (bs.take k))) ∧ wr.ownsRow w.heap.size 9 1 v k (((bs.take k).map ofL).map Value.string) ∧ Below w.heap.size w wr) (fun _ _ i _ => 8 - (intOf i).toNat)
  case atStart => exact ⟨0, _, by omega, by omega, rfl, rfl, rfl, ⟨by simp, .inl ⟨rfl, rfl⟩⟩, hB⟩
  case round =>
    clear hB
    obtain ⟨k, S, hk1, hk2, rfl, rfl, hS, hown, hB⟩ := hrel
    have hjl := joinF_le (bs.take k) (fun b hb => HB.out b (List.mem_of_mem_take hb))
    have hSs : S.size ≤ 900 := by rw [hS.out, ofL_size]; rw [List.length_take] at hjl; omega
    by_cases hlt : k < len ∧ k < 8
    · obtain ⟨hlt1, hlt2⟩ := hlt
      clear hjl
      obtain ⟨b0, off, rfl, hb0, hcell⟩ := SlAt.str HAT.out k (by rw [HL.out]; exact hlt1)
      obtain ⟨x, hx⟩ := nm (ss[k]'(by rw [HL.out]; exact hlt1))
      rw [← hx.out] at hcell
      have hcx : wr.cell? ⟨b0, off + k, none⟩ = some (.string x) := (hB.cell (p := ⟨b0, off + k, none⟩) hb0).trans hcell
      clear hcell
      obtain ⟨y, hy⟩ := nm (bs[k]'(by rw [HBL.out]; exact hlt1))
      have hyx : (bl x).take 100 = y := by
        rw [hy.out, hx.out]
        simp only [hbs.out]
        rw [List.getElem_map]
      have hyl : y.length ≤ 100 := by rw [← hyx]; exact List.length_take_le _ _
      obtain ⟨Y, hY⟩ := nm (ofL y)
      have hYs : Y.size ≤ 100 := by rw [hY.out, ofL_size]; exact hyl
      have hYb : bl Y = y := by rw [hY.out, bl_ofL]
      obtain ⟨F, hF⟩ := nm (ofL (frameL y))
      have hfl := frame_length y
      rw [nd_one (by omega)] at hfl
      have hFs : F.size ≤ 103 := by rw [hF.out, ofL_size]; omega
      have C1 : Hid (cutL (bl (F ++ r)) = (y, F.size, 0)) := by
        show _ = _
        rw [bl_append, hF.out, bl_ofL, cut_back y _ (by omega), ofL_size]
      have HN : Hid ((bs.take (k + 1)).map ofL = (bs.take k).map ofL ++ [Y] ∧ S ++ F = ofL (joinF (bs.take (k + 1)))) := by
        rw [List.take_succ_eq_append_getElem (by rw [HBL.out]; exact hlt1), ← hy.out, List.map_append, joinF_snoc, ← ofL_append, hS.out, hF.out, hY.out]
        exact ⟨rfl, rfl⟩
      obtain ⟨Lk, hLk⟩ := nm (((bs.take k).map ofL).map Value.string)
      rw [← hLk.out] at hown
      have hFr : (F ++ r).size ≤ 1000000 := by rw [app_size]; omega
      clear hfl
      go_wp2_with fail
      refine (short_any x 100 _).mono ?_; rintro e w2 ⟨rfl, rfl⟩
      rw [hyx, ← hY.out]
      go_wp2_with fail
      refine (wrap_any Y _ (by omega) (HT.out.below hB)).mono ?_; rintro e w2 ⟨rfl, hB2⟩
      replace hown := own_below hown hB2
      replace hB := bNext hB hB2
      clear hB2 hcx
      rw [hYb, wrapL_yes (by omega), wrapE_yes (by omega), ← hF.out]
      go_wp2_with fail
      refine (short_any rest 50 _).mono ?_; rintro e w3 ⟨rfl, rfl⟩
      rw [← hr.out]
      go_wp2_with fail
      refine (cut_is0 _ _ hFr (HT.out.below hB) C1.out).mono ?_; rintro e w3 ⟨rfl, hB2⟩
      rw [← hY.out]
      replace hown := own_below hown hB2
      replace hB := bNext hB hB2
      clear hB2
      have hks := hB.size
      go_wp2_with (at_builtin; refine wpList_append_lies _ rfl _ _ 37 rfl w.heap.size 9 i0 (.string .empty) 1 16 Tryd.underlying37 hi hz0 hz1 hz2 rfl (by decide) _ k _ rfl (hown.alloc _) ⟨w3.heap.size, 0, none⟩ 1 1 [.string Y] rfl rfl (World.news_of_block (heap_alloc_new w3 _)) (by simp [Value.oneCell']) (by decide) (by unfold maxLen; omega) (by omega) (Nat.le_trans hks (by simp)) _ rfl ?_)
      intro g cap2 w4 hown2 hgrow _ _
      have hB3 : Below w.heap.size w w4 := (hB.alloc hB.size _).grown hgrow (Nat.le_trans hB.size (by simp)) (fun k hk => (hown.lt k hk).1)
      have hown3 : w4.ownsRow w.heap.size 9 1 (.slice (some ⟨g, 0, none⟩) (k + 1) cap2) (k + 1) (((bs.take (k + 1)).map ofL).map Value.string) := by
        rw [HN.out.1, List.map_append, ← hLk.out]; exact hown2
      clear hown hown2 hgrow hB
      go_wp2_with fail
      go_roundw
      case rel => exact ⟨k + 1, S ++ F, by omega, by omega, by go_num, rfl, HN.out.2, hown3, hB3⟩
      case measure => simp [intOf]; omega
    · obtain ⟨xs, hxs⟩ := nm ((bs.take k).map ofL)
      have hxl : xs.length = k := by rw [hxs.out, List.length_map, List.length_take, HBL.out]; omega
      have hA : allL (bl S) = (bs.take k, S.size) := by
        rw [hS.out, bl_ofL, allL, allF_join _ _ (by omega) (fun b hb => Nat.le_trans (HB.out b (List.mem_of_mem_take hb)) (by decide)), ofL_size]
      have hA1 : Hid (allB S = xs) := by show _ = _; rw [allB, hA, hxs.out]
      have hA2 : Hid ((allL (bl S)).2 = S.size) := by show _ = _; rw [hA]
      rw [← hxs.out] at hown
      obtain ⟨ao2, cap2, rfl, hcap2, hsl⟩ := SlAt.ownV (xs := xs.map Value.string) (by rw [List.length_map, hxl]; exact hown)
      rw [List.length_map] at hcap2
      have hkz : k = xs.length := hxl.symm
      clear hown hA hxs hxl hjl
      subst hkz
      rw [List.length_map]
      go_wp2_with fail
      all_goals
        refine (all_any S _ (by omega) (HT.out.below hB)).mono ?_; rintro e w2 ⟨ao3, cap3, rfl, hcap3, hsl3, hB2⟩
        rw [hA1.out] at hsl3 hcap3 ⊢
        rw [hA2.out]
        have hsl4 := hsl.below hB2
        replace hB := bNext hB hB2
        go_wp2_with fail
        refine (sametexts_any ao3 ao2 cap3 cap2 xs xs _ (by omega) hsl3 hsl4).mono ?_; rintro e w3 ⟨rfl, q, rfl⟩
        rw [show decide (xs = xs) = true from decide_eq_true rfl]
        go_wp2_with fail
        go_ret
        exact ⟨rfl, below_drewN hB q⟩

namespace LFoldBack
open Go.ChangeShapes Go.WideShapes Go.ChangeAt
open Go.ChangeMaps (open_string shut_string)

theorem contract (H : Type) (enc : TypeId × Value → H) (W : World) (base : Nat) (args : Array Value) (ds gs : List (DataW H)) (before : List MemPlace)
    (hval : ∀ (j : Nat) t v, Tryd.f8.params[j]? = some t → args[j]? = some v → Value.okWide Tryd.prog W .any base t v)
    (hW : DataW.Whole enc Tryd.prog Tryd.f8.params.toList Rows.foldBackSpec.vars false W args.toList ds gs before)
    (hL : laidMetH Tryd.prog Rows.foldBackRow.laid W)
    (_hsz : (DataW.weightsEach Tryd.prog (Tryd.f8.params.toList ++ (OpenSpec.ofChange Rows.foldBackSpec).bare.plain.varTypes Tryd.prog) (ds ++ gs)).all (fun x => decide (x ≤ reachBytes)) = true) :
    Calls Tryd.prog 8 args W fun e W' => ∃ v, e = .returned v ∧ Rows.foldBackSpec.post enc Tryd.prog Tryd.f8 false true false false W args v W' := by
  have hW' := hW
  obtain ⟨p, q, hA0, hV, rfl, hfz, hnd⟩ := hW
  have hA : DataW.TrodAll enc Tryd.prog W 0 (fun _ => true) true Tryd.f8.params.toList args.toList ds p := hA0
  rw [Tryd.params8] at hA hval
  obtain ⟨v0, vs0, d0, ds0, p0, q0, hargs, rfl, rfl, h0, r0⟩ := trodAll_cons hA
  obtain ⟨v1, vs1, d1, ds1, p1, q1, rfl, rfl, rfl, h1, r1⟩ := trodAll_cons r0
  obtain ⟨rfl, rfl, rfl⟩ := trodAll_nil r1
  obtain rfl : args = #[v0, v1] := by cases args; simp_all
  obtain ⟨rfl, rfl⟩ := trodVars_none hV
  obtain ⟨ao0, len0, cap0, ss0, rfl, hl0, _, _, hat0⟩ := open_strs Tryd.underlying37 Tryd.underlying9 (show Tryd.prog.cellsOf 9 = 1 by kernel_rfl) h0 (okWide_slice Tryd.underlying37 (hval 0 37 v0 rfl rfl))
  obtain ⟨x1, rfl, rfl, rfl, k1⟩ := open_string Tryd.underlying9 (hval 1 9 v1 rfl rfl) h1
  clear hA0
  refine (foldBack_walk ao0 len0 cap0 ss0 hl0 x1 W (tab_of hL) hat0).mono fun e W' ⟨he, hb⟩ => ?_
  subst he
  exact ⟨_, rfl, law_post laidOut Tryd.underlying4 rfl (by kernel_rfl) rfl rfl rfl rfl hW' hb⟩

theorem reads (os : Os) {H : Type} (enc : TypeId × Value → H) : ∃ places, DataW.whole enc Tryd.prog ((laidWorld os).forCall (fun _ _ => 0) ⟨#[], #[.slice none 0 0, .string .empty], []⟩).memory Tryd.f8.params.toList Rows.foldBackSpec.vars false (#[.slice none 0 0, .string .empty] : Array Value).toList 8 = some ([.nil, .lit (.string [])], [], places) :=
  ⟨[], by kernel_rfl⟩
theorem laid_met (os : Os) : laidMet Tryd.prog Rows.foldBackRow.laid ((laidWorld os).forCall (fun _ _ => 0) ⟨#[], #[.slice none 0 0, .string .empty], []⟩).memory :=
  laidMet_of_run' 8 (by kernel_rfl) (by kernel_rfl)

set_option maxRecDepth 100000 in
theorem lifted (os : Os) (started : os.Started) (H : Type) (enc : TypeId × Value → H) (F : Stop.Interp) :
    ReturnsInHanded {} Tryd.checked os 8 .any ((OpenSpec.ofChange Rows.foldBackSpec).preRow enc Tryd.prog Tryd.f8 Rows.foldBackRow.domain false Rows.foldBackRow.laid) (((OpenSpec.ofChange Rows.foldBackSpec).at F).post enc Tryd.prog Tryd.f8 false true false false) := by
  obtain ⟨places, hx⟩ := reads os enc
  refine returnsInHanded_of_row (C := Tryd.checked) (s := OpenSpec.ofChange Rows.foldBackSpec) own started (by kernel_rfl) Tryd.func8
    (witness_row_at (enc := enc) (C := Tryd.checked) false (laidWorld os) #[.slice none 0 0, .string .empty] rfl (by kernel_rfl) (by kernel_rfl) (by kernel_rfl)
      (OpenSpec.preRow_of_cond 8 hx (by kernel_rfl) (fun k hk => by cases hk) (by kernel_rfl) (laid_met os))) ?_
  intro W base args ds gs before hval hW _ _ hsz hL _ _
  exact contract H enc W base args ds gs before hval hW hL hsz

theorem said : Rows.FoldBackSaid :=
  OpenClaim.holds_of_cond 8 Tryd.f8 rfl rfl rfl rfl rfl rfl rfl ⟨rfl, rfl, rfl, rfl, rfl⟩ rfl rfl rfl rfl rfl (by kernel_rfl) Tryd.func8 (by kernel_rfl)
    (of_decide_eq_true (by kernel_rfl)) (by unfold Func.isWrapper; first | (rw [if_pos (by decide +kernel)]; kernel_rfl) | (rw [if_neg (by decide +kernel)]; exact ⟨rfl, rfl⟩))
    (fun os started H enc _ F => by rw [OpenClaim.pre_eq_preRow]; exact lifted os started H enc F)

theorem plain (f : FuncId) (fn : Func) (hf : Tryd.pinned.checked.prog.funcNamed "caravan/caravanlaw02.FoldBack" = some f) (hfn : Tryd.pinned.checked.prog.funcs[f]? = some fn) :
    false = Tryd.pinned.checked.prog.looks [] ∧ ∀ (j : Nat) t, fn.params[j]? = some t → Tryd.pinned.checked.prog.wantsStandIn t = false := by
  obtain rfl : f = 8 := Option.some.inj ((show Tryd.prog.funcNamed "caravan/caravanlaw02.FoldBack" = some 8 by kernel_rfl).symm.trans hf) |>.symm
  obtain rfl : fn = Tryd.f8 := (Option.some.inj (Tryd.func8.symm.trans hfn)).symm
  refine ⟨by kernel_rfl, fun j t ht => ?_⟩
  have hm : t ∈ Tryd.f8.params.toList := Array.mem_toList_iff.2 (Array.mem_of_getElem? ht)
  have hall : (Tryd.f8.params.toList.all fun t => Tryd.prog.wantsStandIn t == false) = true := by kernel_rfl
  have := List.all_eq_true.1 hall t hm
  exact (show Tryd.prog.wantsStandIn t = false by simpa using this)

theorem card : Rows.FoldBackCardSaid :=
  Claim7.holds_tied_plain_at .later [] _ _ _ _ said (fun _ h => by cases h) (by kernel_rfl) (fun _ h => by cases h) foldBack_row_tie rfl ⟨rfl, rfl⟩ (by kernel_rfl) rfl plain (by kernel_rfl)
end LFoldBack
end Go.Proofs.YtoiogpjnfipkfaaDoor
