/- FoldApart: for every two texts the law returns true (the table of four doublings lying in its variable as the program's text lays it). -/
import Derived.Test.YtoiogpjnfipkfaaDoorFoldAwake
import Derived.Test.YtoiogpjnfipkfaaDoorFoldLaid
import Derived.Test.YtoiogpjnfipkfaaDoorCards
import Derived.Test.YtoiogpjnfipkfaaDoorTie
namespace Go.Proofs.YtoiogpjnfipkfaaDoor
open Go.RowKit

theorem frame_split (l : List UInt8) : frameL l = Pl.num l.length ++ (l ++ [UInt8.ofNat (Pl.crc (textL l) / 256), UInt8.ofNat (Pl.crc (textL l) % 256)]) := by
  unfold frameL
  rw [show textL l = Pl.num l.length ++ l from rfl, List.append_assoc]

theorem frame_inj {a b : List UInt8} (ha : a.length < 10000) (hb : b.length < 10000) (h : frameL a = frameL b) : a = b := by
  rw [frame_split, frame_split] at h
  obtain ⟨h1, h2⟩ := Pl.num_inj (by omega) (by omega) h
  exact (List.append_inj h2 h1).1

theorem frame_length (l : List UInt8) : (frameL l).length = Pl.nd l.length + l.length + 2 := by
  rw [frame_split, List.length_append, List.length_append, Pl.num_length]; simp; omega

theorem nd_one {n : Nat} (h : n < 128) : Pl.nd n = 1 := by simp [Pl.nd, Pl.ndF, h]
theorem nd_two {n : Nat} (h : ¬ n < 128) (h2 : n < 16384) : Pl.nd n = 2 := by
  have h3 : n / 128 < 128 := by omega
  simp [Pl.nd, Pl.ndF, h, h3]

theorem frame_mid (l : List UInt8) : ((frameL l).drop (Pl.nd l.length)).take (Pl.nd l.length + l.length - Pl.nd l.length) = l := by
  rw [frame_split, List.drop_left' (Pl.num_length _), Nat.add_sub_cancel_left, List.take_left' rfl]

set_option maxRecDepth 100000 in
set_option maxHeartbeats 1000000 in
theorem foldApart_walk (s t : ByteArray) (w : World) (ht : Tab w) :
    Calls Tryd.prog 4 #[.string s, .string t] w fun e w' => e = .returned (.bool true) ∧ Below w.heap.size w w' := by
  have HT : Hid (Tab w) := ht
  clear ht
  obtain ⟨a, ha⟩ := nm ((bl s).take 200)
  obtain ⟨b, hb⟩ := nm ((bl t).take 200)
  have hal : a.length ≤ 200 := by rw [ha.out]; exact List.length_take_le _ _
  have hbl : b.length ≤ 200 := by rw [hb.out]; exact List.length_take_le _ _
  have sa : (ofL a).size = a.length := ofL_size _
  have sb : (ofL b).size = b.length := ofL_size _
  have eqs : ((frameL a == frameL b) == (a == b)) = true := by
    rw [beq_iff_eq, Bool.eq_iff_iff, beq_iff_eq, beq_iff_eq]
    exact ⟨frame_inj (by omega) (by omega), fun h => by rw [h]⟩
  obtain ⟨n, hn⟩ := nm (Pl.nd a.length)
  have hlen : Hid ((ofL (frameL a)).size = n + a.length + 2) := by show _ = _; rw [ofL_size, frame_length, hn.out]
  have hmid : Hid ((ofL (frameL a)).extract n (a.length + n) = ofL a) := by
    rw [Nat.add_comm]
    refine bl_inj ?_
    rw [bl_extract, bl_ofL, bl_ofL, hn.out]
    exact frame_mid a
  have hn2 : (a.length < 128 ∧ n = 1) ∨ (¬ a.length < 128 ∧ n = 2) := by
    by_cases h : a.length < 128
    · exact .inl ⟨h, by rw [hn.out]; exact nd_one h⟩
    · exact .inr ⟨h, by rw [hn.out]; exact nd_two h (by omega)⟩
  clear hn
  have e1 := toList_ofL (frameL a)
  have e2 := toList_ofL (frameL b)
  have e3 := toList_ofL a
  have e4 := toList_ofL b
  rcases hn2 with ⟨h128, rfl⟩ | ⟨h128, rfl⟩
  all_goals
    have hl1 := hlen.out
    have hm1 := hmid.out
    clear hlen hmid
    go_enter Tryd.func4, Tryd.ntmps4
    go_wp2_with fail
    refine (awake_any _ HT.out).mono ?_; rintro e w1 ⟨rfl, hb1⟩
    go_wp2_with fail
    refine (short_any s 200 _).mono ?_; rintro e w2 ⟨rfl, rfl⟩
    rw [← ha.out]
    go_wp2_with fail
    refine (short_any t 200 _).mono ?_; rintro e w2 ⟨rfl, rfl⟩
    rw [← hb.out]
    go_wp2_with fail
    refine (wrap_any _ _ (by omega) (HT.out.below hb1)).mono ?_; rintro e w2 ⟨rfl, hb2⟩
    replace hb2 := bNext hb1 hb2
    rw [bl_ofL, wrapL_yes (by omega), wrapE_yes (by omega)]
    go_wp2_with fail
    refine (wrap_any _ _ (by omega) (HT.out.below hb2)).mono ?_; rintro e w3 ⟨rfl, hb3⟩
    replace hb3 := bNext hb2 hb3
    rw [bl_ofL, wrapL_yes (by omega), wrapE_yes (by omega)]
    go_wp2_with fail
    go_ret
    exact ⟨rfl, hb3⟩

namespace LFoldApart
open Go.ChangeShapes Go.WideShapes Go.ChangeAt
open Go.ChangeMaps (open_string shut_string)

theorem contract (H : Type) (enc : TypeId × Value → H) (W : World) (base : Nat) (args : Array Value) (ds gs : List (DataW H)) (before : List MemPlace)
    (hval : ∀ (j : Nat) t v, Tryd.f4.params[j]? = some t → args[j]? = some v → Value.okWide Tryd.prog W .any base t v)
    (hW : DataW.Whole enc Tryd.prog Tryd.f4.params.toList Rows.foldApartSpec.vars false W args.toList ds gs before)
    (hL : laidMetH Tryd.prog Rows.foldApartRow.laid W)
    (_hsz : (DataW.weightsEach Tryd.prog (Tryd.f4.params.toList ++ (OpenSpec.ofChange Rows.foldApartSpec).bare.plain.varTypes Tryd.prog) (ds ++ gs)).all (fun x => decide (x ≤ reachBytes)) = true) :
    Calls Tryd.prog 4 args W fun e W' => ∃ v, e = .returned v ∧ Rows.foldApartSpec.post enc Tryd.prog Tryd.f4 false true false false W args v W' := by
  have hW' := hW
  obtain ⟨p, q, hA0, hV, rfl, hfz, hnd⟩ := hW
  have hA : DataW.TrodAll enc Tryd.prog W 0 (fun _ => true) true Tryd.f4.params.toList args.toList ds p := hA0
  rw [Tryd.params4] at hA hval
  obtain ⟨v0, vs0, d0, ds0, p0, q0, hargs, rfl, rfl, h0, r0⟩ := trodAll_cons hA
  obtain ⟨v1, vs1, d1, ds1, p1, q1, rfl, rfl, rfl, h1, r1⟩ := trodAll_cons r0
  obtain ⟨rfl, rfl, rfl⟩ := trodAll_nil r1
  obtain rfl : args = #[v0, v1] := by cases args; simp_all
  obtain ⟨rfl, rfl⟩ := trodVars_none hV
  obtain ⟨x0, rfl, rfl, rfl, k0⟩ := open_string Tryd.underlying9 (hval 0 9 v0 rfl rfl) h0
  obtain ⟨x1, rfl, rfl, rfl, k1⟩ := open_string Tryd.underlying9 (hval 1 9 v1 rfl rfl) h1
  clear hA0
  refine (foldApart_walk x0 x1 W (tab_of hL)).mono fun e W' ⟨he, hb⟩ => ?_
  subst he
  exact ⟨_, rfl, law_post laidOut Tryd.underlying4 rfl (by kernel_rfl) rfl rfl rfl rfl hW' hb⟩

theorem reads (os : Os) {H : Type} (enc : TypeId × Value → H) : ∃ places, DataW.whole enc Tryd.prog ((laidWorld os).forCall (fun _ _ => 0) ⟨#[], #[.string .empty, .string .empty], []⟩).memory Tryd.f4.params.toList Rows.foldApartSpec.vars false (#[.string .empty, .string .empty] : Array Value).toList 8 = some ([.lit (.string []), .lit (.string [])], [], places) :=
  ⟨[], by kernel_rfl⟩
theorem laid_met (os : Os) : laidMet Tryd.prog Rows.foldApartRow.laid ((laidWorld os).forCall (fun _ _ => 0) ⟨#[], #[.string .empty, .string .empty], []⟩).memory :=
  laidMet_of_run' 8 (by kernel_rfl) (by kernel_rfl)

set_option maxRecDepth 100000 in
theorem lifted (os : Os) (started : os.Started) (H : Type) (enc : TypeId × Value → H) (F : Stop.Interp) :
    ReturnsInHanded {} Tryd.checked os 4 .any ((OpenSpec.ofChange Rows.foldApartSpec).preRow enc Tryd.prog Tryd.f4 Rows.foldApartRow.domain false Rows.foldApartRow.laid) (((OpenSpec.ofChange Rows.foldApartSpec).at F).post enc Tryd.prog Tryd.f4 false true false false) := by
  obtain ⟨places, hx⟩ := reads os enc
  refine returnsInHanded_of_row (C := Tryd.checked) (s := OpenSpec.ofChange Rows.foldApartSpec) own started (by kernel_rfl) Tryd.func4
    (witness_row_at (enc := enc) (C := Tryd.checked) false (laidWorld os) #[.string .empty, .string .empty] rfl (by kernel_rfl) (by kernel_rfl) (by kernel_rfl)
      (OpenSpec.preRow_of_cond 8 hx (by kernel_rfl) (fun k hk => by cases hk) (by kernel_rfl) (laid_met os))) ?_
  intro W base args ds gs before hval hW _ _ hsz hL _ _
  exact contract H enc W base args ds gs before hval hW hL hsz

theorem said : Rows.FoldApartSaid :=
  OpenClaim.holds_of_cond 4 Tryd.f4 rfl rfl rfl rfl rfl rfl rfl ⟨rfl, rfl, rfl, rfl, rfl⟩ rfl rfl rfl rfl rfl (by kernel_rfl) Tryd.func4 (by kernel_rfl)
    (of_decide_eq_true (by kernel_rfl)) (by unfold Func.isWrapper; first | (rw [if_pos (by decide +kernel)]; kernel_rfl) | (rw [if_neg (by decide +kernel)]; exact ⟨rfl, rfl⟩))
    (fun os started H enc _ F => by rw [OpenClaim.pre_eq_preRow]; exact lifted os started H enc F)

theorem plain (f : FuncId) (fn : Func) (hf : Tryd.pinned.checked.prog.funcNamed "caravan/caravanlaw02.FoldApart" = some f) (hfn : Tryd.pinned.checked.prog.funcs[f]? = some fn) :
    false = Tryd.pinned.checked.prog.looks [] ∧ ∀ (j : Nat) t, fn.params[j]? = some t → Tryd.pinned.checked.prog.wantsStandIn t = false := by
  obtain rfl : f = 4 := Option.some.inj ((show Tryd.prog.funcNamed "caravan/caravanlaw02.FoldApart" = some 4 by kernel_rfl).symm.trans hf) |>.symm
  obtain rfl : fn = Tryd.f4 := (Option.some.inj (Tryd.func4.symm.trans hfn)).symm
  refine ⟨by kernel_rfl, fun j t ht => ?_⟩
  have hm : t ∈ Tryd.f4.params.toList := Array.mem_toList_iff.2 (Array.mem_of_getElem? ht)
  have hall : (Tryd.f4.params.toList.all fun t => Tryd.prog.wantsStandIn t == false) = true := by kernel_rfl
  have := List.all_eq_true.1 hall t hm
  exact (show Tryd.prog.wantsStandIn t = false by simpa using this)

theorem card : Rows.FoldApartCardSaid :=
  Claim7.holds_tied_plain_at .later [] _ _ _ _ said (fun _ h => by cases h) (by kernel_rfl) (fun _ h => by cases h) foldApart_row_tie rfl ⟨rfl, rfl⟩ (by kernel_rfl) rfl plain (by kernel_rfl)
end LFoldApart
end Go.Proofs.YtoiogpjnfipkfaaDoor
