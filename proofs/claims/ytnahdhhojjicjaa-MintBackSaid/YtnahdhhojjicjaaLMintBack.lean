/- MintBack: for every number, list and text the law returns true. -/
import Derived.Test.YtnahdhhojjicjaaBackPlain
import Derived.Test.YtnahdhhojjicjaaNumsRef
import Derived.Test.YtnahdhhojjicjaaSame
import Derived.Test.YtnahdhhojjicjaaLaw
namespace Go.Proofs.Ytnahdhhojjicjaa
open Go.RowKit

/-- A number's lowest 50 bits. -/
def m50 (z : Int) : Int := bits .and .i64 z 1125899906842623
theorem m50_le (z : Int) : 0 ≤ m50 z ∧ m50 z ≤ 1125899906842623 := by
  obtain ⟨K, hK, h⟩ := and_mask z 1125899906842623 (by decide)
  have h2 : m50 z = (K : Int) := h
  omega

set_option maxRecDepth 100000 in
set_option maxHeartbeats 4000000 in
theorem mintBack_walk (n : Nat) (hn : n < 18446744073709551616) (ao : Option Addr) (len cap : Nat) (ss : List Int) (hl : ss.length = len) (s : ByteArray) (w : World) (hat : SlAt w ao (ss.map (Value.int .i64))) :
    Calls Try.prog 9 #[.int .u64 (n : Int), .slice ao len cap, .string s] w fun e w' => e = .returned (.bool true) ∧ Below w.heap.size w w' := by
  have HAT := Lib.hid hat
  have HL := Lib.hid hl
  clear hat hl
  have hc := cutB_le s 50
  obtain ⟨u, hu⟩ := nm (cutB s 50)
  rw [← hu.out] at hc
  obtain ⟨i0, hi, hz0, hz1, hz2⟩ := info_parts infoInt
  go_enter Try.func9, Try.ntmps9
  go_wp2_with fail
  refine (awake_any _).mono ?_; rintro e w0 ⟨rfl, hB⟩
  go_wp2_with fail
  go_loopw [8, 9] (fun v i wr => ∃ (k : Nat), k ≤ 20 ∧ k ≤ len ∧ i = .int .i64 (k : Int) ∧ wr.ownsRow w.heap.size 3 1 v k (((ss.take k).map m50).map (Value.int .i64)) ∧ Below w.heap.size w wr) (fun _ i _ => 20 - (intOf i).toNat)
  case atStart => exact ⟨0, by omega, by omega, rfl, ⟨by simp, .inl ⟨rfl, rfl⟩⟩, hB⟩
  case round =>
    clear hB
    obtain ⟨k, hk1, hk2, rfl, hown, hB⟩ := hrel
    by_cases hlt : k < len ∧ k < 20
    · obtain ⟨hlt1, hlt2⟩ := hlt
      obtain ⟨bs, off, rfl, hbs, hcell⟩ := SlAt.int HAT.out k (by rw [HL.out]; exact hlt1)
      obtain ⟨z, hzz⟩ := nm (ss[k]'(by rw [HL.out]; exact hlt1))
      rw [← hzz.out] at hcell
      have hcz : wr.cell? ⟨bs, off + k, none⟩ = some (.int .i64 z) := (hB.cell (p := ⟨bs, off + k, none⟩) hbs).trans hcell
      clear hcell
      have hm50 : bits .and .i64 z 1125899906842623 = m50 z := rfl
      have hm1 := (m50_le z).1
      have hm2 := (m50_le z).2
      have HN : Hid ((ss.take (k + 1)).map m50 = (ss.take k).map m50 ++ [m50 z]) := by
        show _ = _
        rw [List.take_succ_eq_append_getElem (by rw [HL.out]; exact hlt1), ← hzz.out, List.map_append]; rfl
      obtain ⟨Lk, hLk⟩ := nm (((ss.take k).map m50).map (Value.int .i64))
      rw [← hLk.out] at hown
      go_wp2_with (at_builtin; refine wpList_append_lies _ rfl _ _ 26 rfl w.heap.size 3 i0 (.int .i64 0) 1 8 Try.underlying26 hi hz0 hz1 hz2 rfl (by decide) _ k _ rfl (hown.alloc _) ⟨wr.heap.size, 0, none⟩ 1 1 [.int .i64 (m50 z)] rfl rfl (World.news_of_block (heap_alloc_new wr _)) (by simp [Value.oneCell']) (by decide) (by unfold maxLen; omega) (by omega) (Nat.le_trans hB.size (by simp)) _ rfl ?_)
      intro g cap2 w2 hown2 hgrow _ _
      have hB2 : Below w.heap.size w w2 := (hB.alloc hB.size _).grown hgrow (Nat.le_trans hB.size (by simp)) (fun k hk => (hown.lt k hk).1)
      have hown3 : w2.ownsRow w.heap.size 3 1 (.slice (some ⟨g, 0, none⟩) (k + 1) cap2) (k + 1) (((ss.take (k + 1)).map m50).map (Value.int .i64)) := by
        rw [HN.out, List.map_append, ← hLk.out]; exact hown2
      clear hown hown2 hgrow hB
      go_wp2_with fail
      go_roundw
      case rel => exact ⟨k + 1, by omega, by omega, by go_num, hown3, hB2⟩
      case measure => simp [intOf]; omega
    · obtain ⟨zs, hzs⟩ := nm ((ss.take k).map m50)
      have hzl : zs.length = k := by rw [hzs.out, List.length_map, List.length_take, HL.out]; omega
      have hzb : ∀ z ∈ zs, 0 ≤ z ∧ z ≤ 1125899906842623 := by
        rw [hzs.out]; intro z hz
        obtain ⟨y, _, rfl⟩ := List.mem_map.1 hz
        exact m50_le y
      rw [← hzs.out] at hown
      rw [← hzl] at hown
      obtain ⟨ao2, cap2, rfl, hc2, hsl⟩ := SlAt.own hown
      have HS := Lib.hid hsl
      have HZB := Lib.hid hzb
      clear hown hsl hzb hzs
      have hB0 := hB
      have hB : Below wr.heap.size wr wr := Below.refl _ _
      have hz63 : ∀ z ∈ zs, z ≤ 9223372036854775807 := fun z h => by have := HZB.out z h; omega
      obtain ⟨a, ha⟩ := nm (ofL (Pl.num n))
      obtain ⟨c, hcc⟩ := nm (ofL (textL (bl u)))
      obtain ⟨d, hd⟩ := nm (ofL (numsL zs))
      have las : a.size ≤ 10 := by rw [ha.out, ofL_size]; exact Pl.num_length_le _ hn
      have lcs : c.size ≤ 60 := by
        have := Pl.num_length_le u.size (by omega)
        rw [hcc.out, ofL_size, textL, List.length_append, bl_length]; omega
      have lds : d.size ≤ 210 := by
        have h1 := intsL_le zs hz63
        have h2 := Pl.num_length_le zs.length (by omega)
        rw [hd.out, ofL_size, numsL, List.length_append]; omega
      have hall : a ++ c ++ d ++ u = ofL (Pl.num n ++ (textL (bl u) ++ (numsL zs ++ bl u))) := by
        rw [ha.out, hcc.out, hd.out, ofL_append, ofL_append]
        refine bl_inj ?_
        rw [bl_append, bl_ofL, bl_ofL]
        simp [List.append_assoc]
      obtain ⟨T, hT⟩ := nm (a ++ c ++ d ++ u)
      have hTs : T.size ≤ 400 := by rw [hT.out, app_size, app_size, app_size]; omega
      have hT2 := hT.out.trans hall
      have HR1 : Hid ((Rd.mk T false).num = (⟨ofL (textL (bl u) ++ (numsL zs ++ bl u)), false⟩, n)) := by
        show _ = _
        rw [hT2]; exact Rd.num_back n hn _
      have HR2 : Hid ((Rd.mk (ofL (textL (bl u) ++ (numsL zs ++ bl u))) false).text 50 = (⟨ofL (numsL zs ++ bl u), false⟩, u)) :=
        Rd.text_back (bl u) (numsL zs ++ bl u) 50 (by rw [bl_length]; omega) (by rw [bl_length]; omega)
      have HR3 : Hid ((Rd.mk (ofL (numsL zs ++ bl u)) false).nums 20 1125899906842624 = (⟨u, false⟩, zs)) :=
        Rd.nums_back 1125899906842624 20 zs (bl u) (by omega) (by omega) (fun z h => by have := HZB.out z h; omega)
      have ls2 : (ofL (textL (bl u) ++ (numsL zs ++ bl u))).size ≤ 400 := by
        have e : T.size = a.size + (ofL (textL (bl u) ++ (numsL zs ++ bl u))).size := by
          rw [hT2, ha.out, ← ofL_append, app_size]
        omega
      have ls3 : (ofL (numsL zs ++ bl u)).size ≤ 400 := by
        have e : (ofL (textL (bl u) ++ (numsL zs ++ bl u))).size = c.size + (ofL (numsL zs ++ bl u)).size := by
          rw [hcc.out, ← ofL_append, app_size]
        omega
      clear hall hT2
      obtain ⟨T2, hT2⟩ := nm (ofL (textL (bl u) ++ (numsL zs ++ bl u)))
      rw [← hT2.out] at HR1 HR2 ls2
      obtain ⟨T3, hT3⟩ := nm (ofL (numsL zs ++ bl u))
      rw [← hT3.out] at HR2 HR3 ls3
      clear hT2 hT3
      have HZ := Lib.hid hz63
      clear hz63
      have hkz : k = zs.length := hzl.symm
      clear hzl
      subst hkz
      go_wp2_with fail
      all_goals
        refine (short_any s 50 _ (by decide)).mono ?_; rintro e w1 ⟨rfl, rfl⟩
        rw [← hu.out]
        go_wp2_with fail
        refine (num_any n _ hn).mono ?_; rintro e w1 ⟨rfl, hB1⟩
        rw [← ha.out]
        replace hB := bNext hB hB1; clear hB1
        go_wp2_with fail
        refine (text_any u _ (by omega)).mono ?_; rintro e w2 ⟨rfl, hB1⟩
        rw [← hcc.out]
        replace hB := bNext hB hB1; clear hB1
        go_wp2_with fail
        refine (nums_any ao2 _ cap2 zs rfl (by omega) HZ.out _ (HS.out.below hB)).mono ?_; rintro e w3 ⟨rfl, hB1⟩
        rw [← hd.out]
        replace hB := bNext hB hB1; clear hB1
        go_wp2_with fail
        rw [← hT.out]
        refine (read2_any _ _).mono ?_; rintro e w4 ⟨b, rfl, hb, hr, hB1⟩
        replace hb := Nat.le_trans hB.size hb
        replace hB := bNext hB hB1; clear hB1
        go_wp2_with fail
        refine (rnum_any b _ _ hr (by simp only; omega)).mono ?_; rintro e w5 ⟨rfl, hr, hk⟩
        rw [HR1.out] at hr ⊢
        replace hB := bKept hB hk hb; clear hk
        go_wp2_with fail
        refine (rtext_any b _ 50 _ hr (by simp only; omega) (by decide)).mono ?_; rintro e w6 ⟨rfl, hr, hk⟩
        rw [HR2.out] at hr ⊢
        replace hB := bKept hB hk hb; clear hk
        go_wp2_with fail
        refine (rnums_any b _ 20 1125899906842624 _ hr (by simp only; omega) (by decide) (by decide)).mono ?_; rintro e w7 ⟨ao3, cap3, rfl, hc3, hs3, hr, hk⟩
        rw [HR3.out] at hr hs3 ⊢
        replace hB := bKept hB hk hb; clear hk
        go_wp2_with fail
        refine (same_any ao3 ao2 cap3 cap2 zs zs _ (by omega) hs3 (HS.out.below hB)).mono ?_; rintro e w8 ⟨rfl, q8, rfl⟩
        rw [show decide (zs = zs) = true from decide_eq_true rfl]
        replace hr := Blk.drewN hr q8
        replace hB : Below wr.heap.size wr (w7.drewN q8) := below_drewN hB q8
        go_wp2_with fail
        refine (rleft_any b _ _ hr).mono ?_; rintro e w9 ⟨rfl, rfl⟩
        rw [show (Rd.mk u false).rest = u from rfl]
        go_wp2_with fail
        refine (fine_is false true rfl b _ _ hr).mono ?_; rintro e w9 ⟨rfl, rfl⟩
        go_wp2_with fail
        refine (rend_any b _ _ hr).mono ?_; rintro e w9 ⟨rfl, rfl⟩
        by_cases hu0 : u.size = 0
        · rw [show (Rd.mk u false).fin = 0 from by simp [Rd.fin, hu0]]
          obtain rfl := size_zero hu0
          go_wp2_with fail
          go_ret
          exact ⟨rfl, hB0.trans (hB.mono hB0.size)⟩
        · rw [show (Rd.mk u false).fin = 10 from by simp [Rd.fin, hu0]]
          have hni : u.toList.isEmpty = false := by
            rw [toList_bl, List.isEmpty_eq_false_iff]
            intro h
            rw [← bl_length, h] at hu0
            exact hu0 rfl
          go_wp2_with fail
          go_ret
          exact ⟨rfl, hB0.trans (hB.mono hB0.size)⟩

theorem mintBack_walkI (x0 : Int) (k0 : (Lit.int .u64 x0).wf = true) (ao : Option Addr) (len cap : Nat) (ss : List Int) (hl : ss.length = len) (s : ByteArray) (w : World) (hat : SlAt w ao (ss.map (Value.int .i64))) :
    Calls Try.prog 9 #[.int .u64 x0, .slice ao len cap, .string s] w fun e w' => e = .returned (.bool true) ∧ Below w.heap.size w w' := by
  have h0 := Go.bounds_u64 k0
  obtain ⟨n, rfl⟩ : ∃ n : Nat, x0 = n := ⟨x0.toNat, by omega⟩
  exact mintBack_walk n (by omega) ao len cap ss hl s w hat


namespace LMintBack
open Go.ChangeShapes Go.WideShapes Go.ChangeAt
open Go.ChangeMaps (open_string shut_string)

theorem contract (H : Type) (enc : TypeId × Value → H) (W : World) (base : Nat) (args : Array Value) (ds gs : List (DataW H)) (before : List MemPlace)
    (hval : ∀ (j : Nat) t v, Try.f9.params[j]? = some t → args[j]? = some v → Value.okWide Try.prog W .any base t v)
    (hW : DataW.Whole enc Try.prog Try.f9.params.toList Rows.mintBackSpec.vars false W args.toList ds gs before)
    (_hsz : (DataW.weightsEach Try.prog (Try.f9.params.toList ++ (OpenSpec.ofChange Rows.mintBackSpec).bare.plain.varTypes Try.prog) (ds ++ gs)).all (fun x => decide (x ≤ reachBytes)) = true) :
    Calls Try.prog 9 args W fun e W' => ∃ v, e = .returned v ∧ Rows.mintBackSpec.post enc Try.prog Try.f9 false true false false W args v W' := by
  have hW' := hW
  obtain ⟨p, q, hA0, hV, rfl, hfz, hnd⟩ := hW
  have hA : DataW.TrodAll enc Try.prog W 0 (fun _ => true) true Try.f9.params.toList args.toList ds p := hA0
  rw [Try.params9] at hA hval
  obtain ⟨v0, vs0, d0, ds0, p0, q0, hargs, rfl, rfl, h0, r0⟩ := trodAll_cons hA
  obtain ⟨v1, vs1, d1, ds1, p1, q1, rfl, rfl, rfl, h1, r1⟩ := trodAll_cons r0
  obtain ⟨v2, vs2, d2, ds2, p2, q2, rfl, rfl, rfl, h2, r2⟩ := trodAll_cons r1
  obtain ⟨rfl, rfl, rfl⟩ := trodAll_nil r2
  obtain rfl : args = #[v0, v1, v2] := by cases args; simp_all
  obtain ⟨rfl, rfl⟩ := trodVars_none hV
  obtain ⟨x0, rfl, rfl, rfl, k0⟩ := open_int Try.underlying22 (hval 0 22 v0 rfl rfl) h0
  obtain ⟨ao1, len1, cap1, ss1, rfl, hl1, _, _, hat1, wf1⟩ := open_ints2 Try.underlying26 Try.underlying3 (show Try.prog.cellsOf 3 = 1 by kernel_rfl) h1 (okWide_slice Try.underlying26 (hval 1 26 v1 rfl rfl))
  obtain ⟨x2, rfl, rfl, rfl, k2⟩ := open_string Try.underlying9 (hval 2 9 v2 rfl rfl) h2
  clear hA0
  refine (mintBack_walkI x0 k0 ao1 len1 cap1 ss1 hl1 x2 W hat1).mono fun e W' ⟨he, hb⟩ => ?_
  subst he
  exact ⟨_, rfl, law_post laidOut Try.underlying4 rfl (by kernel_rfl) rfl rfl rfl rfl hW' hb⟩

theorem reads (os : Os) {H : Type} (enc : TypeId × Value → H) : ∃ places, DataW.whole enc Try.prog ((World.holding Try.prog os ⟨#[], #[], []⟩).forCall (fun _ _ => 0) ⟨#[], #[.int .u64 0, .slice none 0 0, .string .empty], []⟩).memory Try.f9.params.toList Rows.mintBackSpec.vars false (#[.int .u64 0, .slice none 0 0, .string .empty] : Array Value).toList 8 = some ([.lit (.int .u64 0), .nil, .lit (.string [])], [], places) :=
  ⟨[], by kernel_rfl⟩
theorem laid_met (os : Os) : laidMet Try.prog Rows.mintBackRow.laid ((World.holding Try.prog os ⟨#[], #[], []⟩).forCall (fun _ _ => 0) ⟨#[], #[.int .u64 0, .slice none 0 0, .string .empty], []⟩).memory :=
  laidMet_of_run' 8 (by kernel_rfl) (by kernel_rfl)

set_option maxRecDepth 100000 in
theorem lifted (os : Os) (started : os.Started) (H : Type) (enc : TypeId × Value → H) (F : Stop.Interp) :
    ReturnsInHanded {} Try.checked os 9 .any ((OpenSpec.ofChange Rows.mintBackSpec).preRow enc Try.prog Try.f9 Rows.mintBackRow.domain false Rows.mintBackRow.laid) (((OpenSpec.ofChange Rows.mintBackSpec).at F).post enc Try.prog Try.f9 false true false false) := by
  obtain ⟨places, hx⟩ := reads os enc
  refine returnsInHanded_of_row (C := Try.checked) (s := OpenSpec.ofChange Rows.mintBackSpec) own started (by kernel_rfl) Try.func9
    (witness_row_at (enc := enc) (C := Try.checked) false (World.holding Try.prog os ⟨#[], #[], []⟩) #[.int .u64 0, .slice none 0 0, .string .empty] rfl (by kernel_rfl) (by kernel_rfl) (by kernel_rfl)
      (OpenSpec.preRow_of_cond 8 hx (by kernel_rfl) (fun k hk => by cases hk) (by kernel_rfl) (laid_met os))) ?_
  intro W base args ds gs before hval hW _ _ hsz hL _ _
  exact contract H enc W base args ds gs before hval hW hsz

theorem said : Rows.MintBackSaid :=
  OpenClaim.holds_of_cond 9 Try.f9 rfl rfl rfl rfl rfl rfl rfl ⟨rfl, rfl, rfl, rfl, rfl⟩ rfl rfl rfl rfl rfl (by kernel_rfl) Try.func9 (by kernel_rfl)
    (of_decide_eq_true (by kernel_rfl)) (by unfold Func.isWrapper; first | (rw [if_pos (by decide +kernel)]; kernel_rfl) | (rw [if_neg (by decide +kernel)]; exact ⟨rfl, rfl⟩))
    (fun os started H enc _ F => by rw [OpenClaim.pre_eq_preRow]; exact lifted os started H enc F)
end LMintBack
end Go.Proofs.Ytnahdhhojjicjaa
