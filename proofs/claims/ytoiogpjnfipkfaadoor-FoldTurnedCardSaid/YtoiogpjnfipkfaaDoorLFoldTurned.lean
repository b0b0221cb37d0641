/- FoldTurned: for every body, every place and every bits the law returns true (the table of four doublings lying in its variable as the program's text lays it). -/
import Derived.Test.YtoiogpjnfipkfaaDoorFoldAwake
import Derived.Test.YtoiogpjnfipkfaaDoorFoldLaid
import Derived.Test.YtoiogpjnfipkfaaDoorCards
import Derived.Test.YtoiogpjnfipkfaaDoorTie
import Derived.Test.YtoiogpjnfipkfaaDoorCutIs
import Derived.Test.YtoiogpjnfipkfaaDoorPlainT
namespace Go.Proofs.YtoiogpjnfipkfaaDoor
open Go.RowKit
structure RowB (w : World) (bb : Nat) (T : List UInt8) : Prop where
  lt : bb < w.heap.size
  cell : ∀ j c, T[j]? = some c → w.cell? ⟨bb, j, none⟩ = some (.int .u8 (c.toNat : Int))
  free : ∀ j, j < T.length → w.frozen? ⟨bb, j, none⟩ = false

theorem rowB_new (w : World) (F : ByteArray) (cap : Nat) : RowB (w.alloc (.cells (bytesRow F cap) 5 ((bytesRow F cap).size, (bytesRow F cap).size + 1))).drew w.heap.size (bl F) := by
  have hh : (w.alloc (.cells (bytesRow F cap) 5 ((bytesRow F cap).size, (bytesRow F cap).size + 1))).drew.heap[w.heap.size]? = some (.cells (bytesRow F cap) 5 ((bytesRow F cap).size, (bytesRow F cap).size + 1)) := by
    show (w.heap.push _)[w.heap.size]? = _
    simp
  have hsz : F.size ≤ (bytesRow F cap).size := by
    unfold bytesRow
    rw [Array.size_append, Array.size_map]
    exact Nat.le_add_right _ _
  refine ⟨lt_of_block hh, fun j c hc => ?_, fun j hj => ?_⟩
  · have hj : j < F.data.size := by
      have := (List.getElem?_eq_some_iff.1 hc).1
      rwa [bl_length] at this
    simp only [World.cell?, hh]
    have e : (bytesRow F cap)[j]? = some (.int .u8 (c.toNat : Int)) := by
      unfold bytesRow
      rw [Array.getElem?_append_left (by simpa using hj), Array.getElem?_map]
      have : F.data[j]? = some c := by
        rw [← hc]
        show _ = F.data.toList[j]?
        simp
      rw [this]
      rfl
    simp [e]
  · rw [bl_length] at hj
    simp only [World.frozen?, hh]
    simp
    omega

theorem RowB.set {w : World} {bb : Nat} {T : List UInt8} (h : RowB w bb T) (j : Nat) (c : UInt8) (hj : j < T.length) : RowB (w.setCell ⟨bb, j, none⟩ (.int .u8 (c.toNat : Int))) bb (T.set j c) := by
  have hold : w.cell? ⟨bb, j, none⟩ = some (.int .u8 (T[j].toNat : Int)) := h.cell j T[j] (by simp)
  refine ⟨by simpa [World.setCell] using h.lt, fun i x hx => ?_, fun i hi => ?_⟩
  · by_cases hij : j = i
    · subst hij
      rw [List.getElem?_set_self hj] at hx
      cases hx
      exact World.cell?_setCell_same _ _ _ hold
    · rw [List.getElem?_set_ne hij] at hx
      exact (World.cell?_setCell_other _ _ _ _ (by intro e; cases e; exact hij rfl)).trans (h.cell i x hx)
  · rw [List.length_set] at hi
    rw [World.frozen?_setCell]
    exact h.free i hi
theorem and_one16 (x : Nat) (hx : x < 65536) : bits .and .u16 (x : Int) 1 = ((x % 2 : Nat) : Int) := by
  have h1 : (BitVec.ofInt 16 (x : Int)).toNat = x := by
    rw [BitVec.ofInt_natCast, BitVec.toNat_ofNat]; exact Nat.mod_eq_of_lt (by omega)
  have h2 : (BitVec.ofInt 16 (1 : Int)).toNat = 1 := rfl
  show IntKind.u16.wrap ((BitVec.ofInt 16 (x : Int) &&& BitVec.ofInt 16 (1 : Int)).toNat : Int) = _
  rw [BitVec.toNat_and, h1, h2, IntKind.wrap_u16, Nat.and_one_is_mod]
  omega
theorem and_place (B k : Nat) (hB : B < 65536) : bits .and .u16 ((B : Int) / 2 ^ k) 1 = ((B / 2 ^ k % 2 : Nat) : Int) := by
  rw [← and_one16 (B / 2 ^ k) (Nat.lt_of_le_of_lt (Nat.div_le_self _ _) hB)]
  simp
theorem xor8 (a b : UInt8) : bits .xor .u8 (a.toNat : Int) (b.toNat : Int) = ((a ^^^ b).toNat : Int) := by
  have ha := a.toNat_lt
  have hb := b.toNat_lt
  have h1 : (BitVec.ofInt 8 (a.toNat : Int)).toNat = a.toNat := by
    rw [BitVec.ofInt_natCast, BitVec.toNat_ofNat]; exact Nat.mod_eq_of_lt (by omega)
  have h2 : (BitVec.ofInt 8 (b.toNat : Int)).toNat = b.toNat := by
    rw [BitVec.ofInt_natCast, BitVec.toNat_ofNat]; exact Nat.mod_eq_of_lt (by omega)
  have hx := (a ^^^ b).toNat_lt
  show IntKind.u8.wrap ((BitVec.ofInt 8 (a.toNat : Int) ^^^ BitVec.ofInt 8 (b.toNat : Int)).toNat : Int) = _
  rw [BitVec.toNat_xor, h1, h2, IntKind.wrap_u8, ← UInt8.toNat_xor]
  omega
theorem xor_place (c : UInt8) (q : Nat) : bits .xor .u8 (c.toNat : Int) (128 / 2 ^ (q % 8)) = ((c ^^^ Pl.mask q).toNat : Int) := by
  have e : ∀ r : Fin 8, ((UInt8.ofNat (128 / 2 ^ r.val)).toNat : Int) = 128 / 2 ^ r.val := by decide +kernel
  have h := e ⟨q % 8, Nat.mod_lt _ (by decide)⟩
  have h2 : ((Pl.mask q).toNat : Int) = 128 / 2 ^ (q % 8) := h
  rw [← h2]
  exact xor8 c _

theorem cut_turned (a T : List UInt8) (ha : a.length ≤ 120) (hl : T.length = (frameL a).length) (h0 : T[0]? = (frameL a)[0]?) (hne : Pl.crc T ≠ 0) : cutL T = ([], 0, 10) := by
  have hnd : Pl.nd a.length = 1 := nd_one (by omega)
  have hnum : Pl.num a.length = [UInt8.ofNat (a.length % 128)] := by rw [Pl.num, hnd]; rfl
  have hfl := frame_length a
  rw [frame_split, hnum] at h0
  rcases T with _ | ⟨c, rest⟩
  · simp at h0
  · simp at h0
    have hT : c :: rest = Pl.num a.length ++ rest := by rw [hnum, h0]; simp
    have hr : rest.length = a.length + 2 := by rw [List.length_cons] at hl; omega
    have hrd := Pl.rd_num a.length (by omega) rest
    rw [← hT] at hrd
    rw [cutL, hrd]
    simp only
    have hbl : (rest.take a.length).length = a.length := by rw [List.length_take]; omega
    have hf2 := frame_length (rest.take a.length)
    rw [hbl] at hf2
    rw [if_neg (by omega), if_neg (by omega), if_neg]
    rw [hf2, List.take_of_length_le (by rw [List.length_cons]; omega)]
    intro e
    apply hne
    rw [e, frameL]
    exact Pl.crc_end _

set_option maxRecDepth 100000 in
set_option maxHeartbeats 4000000 in
theorem foldTurned_walk (s : ByteArray) (at_ : Int) (ha1 : -9223372036854775808 ≤ at_) (ha2 : at_ ≤ 9223372036854775807) (B : Nat) (hB16 : B < 65536) (w : World) (ht : Tab w) :
    Calls Tryd.prog 6 #[.string s, .int .i64 at_, .int .u16 B] w fun e w' => e = .returned (.bool true) ∧ Below w.heap.size w w' := by
  have HT : Hid (Tab w) := ht
  clear ht
  obtain ⟨a, ha⟩ := nm ((bl s).take 120)
  have hal : a.length ≤ 120 := by rw [ha.out]; exact List.length_take_le _ _
  have sa : (ofL a).size = a.length := ofL_size _
  have hfl := frame_length a
  have hnd : Pl.nd a.length = 1 := nd_one (by omega)
  obtain ⟨F, hF⟩ := nm (ofL (frameL a))
  have hFs : F.size = (frameL a).length := by rw [hF.out, ofL_size]
  have hF1 : 3 ≤ F.size := by omega
  have hF2 : F.size ≤ 200 := by omega
  have HFS := Lib.hid (show F.size = 1 + a.length + 2 by omega)
  clear hfl hnd hFs
  go_enter Tryd.func6, Tryd.ntmps6
  go_wp2_with fail
  refine (awake_any _ HT.out).mono ?_; rintro e w1 ⟨rfl, hb1⟩
  go_wp2_with fail
  refine (short_any s 120 _).mono ?_; rintro e w2 ⟨rfl, rfl⟩
  rw [← ha.out]
  go_wp2_with fail
  refine (wrap_any _ _ (by omega) (HT.out.below hb1)).mono ?_; rintro e w2 ⟨rfl, hb2⟩
  replace hb2 := bNext hb1 hb2
  rw [bl_ofL, wrapL_yes (by omega), wrapE_yes (by omega), ← hF.out]
  clear hb1
  by_cases hB0 : B = 0
  · subst hB0
    go_wp2_with fail
    go_ret
    exact ⟨rfl, hb2⟩
  obtain ⟨n0, hn0⟩ : ∃ n0 : Nat, (0 ≤ at_ ∧ at_ = (n0 : Int)) ∨ (at_ < 0 ∧ -(at_ + 1) = (n0 : Int)) := by
    by_cases h : 0 ≤ at_
    · exact ⟨at_.toNat, .inl ⟨h, by omega⟩⟩
    · exact ⟨(-(at_ + 1)).toNat, .inr ⟨by omega, by omega⟩⟩
  have hn63 : n0 ≤ 9223372036854775807 := by omega
  have hBz : ((B : Int) == 0) = false := by rw [beq_eq_false_iff_ne]; omega
  go_upto_if 36 with fail
  go_cut [10] (fun s10 wx => s10 = .int .i64 (n0 : Int) ∧ w2 = wx)
  case first =>
    rcases hn0 with ⟨h1, h2⟩ | ⟨h1, h2⟩
    all_goals
      go_wp2_with fail
      go_meet
      first | exact ⟨rfl, rfl⟩ | exact ⟨congrArg _ h2, rfl⟩
  obtain ⟨rfl, rfl⟩ := hcut
  clear hn0
  obtain ⟨r, hr⟩ := nm (n0 % (8 * (F.size - 1) - 15))
  have hr1 : r < 8 * (F.size - 1) - 15 := by rw [hr.out]; exact Nat.mod_lt n0 (by omega)
  have hrz : (n0 : Int) % (8 * ((F.size : Int) - 1) - 15) = (r : Int) := by
    rw [hr.out, show 8 * ((F.size : Int) - 1) - 15 = ((8 * (F.size - 1) - 15 : Nat) : Int) from by omega]; rfl
  obtain ⟨n, hn⟩ : ∃ n : Nat, 8 + r = n := ⟨_, rfl⟩
  go_upto_region 11 with fail
  go_cut [10] (fun s10 wx => s10 = .int .i64 (n : Int) ∧ w2 = wx)
  case first =>
    go_wp2_with fail
    go_meet
    exact ⟨congrArg _ (by omega), rfl⟩
  obtain ⟨rfl, rfl⟩ := hcut
  have hcv : ∀ w : World, _ := fun w => run_bytes_of_string (P := Tryd.prog) w 9 24 5 F Tryd.underlying9 Tryd.underlying24 Tryd.underlying5
  obtain ⟨E, hE⟩ : ∃ E : Nat, Hid (E = 8 * F.size - n) := ⟨_, rfl⟩
  have hrow := rowB_new w2 F (grownCap w2 F.size 0 5)
  have hB3 : Below w.heap.size w (w2.alloc (.cells (bytesRow F (grownCap w2 F.size 0 5)) 5 ((bytesRow F (grownCap w2 F.size 0 5)).size, (bytesRow F (grownCap w2 F.size 0 5)).size + 1))).drew := (bNew hb2 _).drew
  obtain ⟨cap, hcap⟩ := nm (grownCap w2 F.size 0 5)
  rw [← hcap.out] at hrow hB3
  obtain ⟨bb, hbb⟩ := nm w2.heap.size
  have hbw : w.heap.size ≤ bb := by rw [hbb.out]; exact hb2.size
  rw [← hbb.out] at hrow
  go_wp2_with fail
  rw [← hcap.out, ← hbb.out]
  clear hcv
  go_loopw [12] (fun i wr => ∃ (k : Nat) (T : List UInt8), k ≤ 16 ∧ i = .int .i64 (k : Int) ∧ RowB wr bb T ∧ Below w.heap.size w wr ∧ Hid (T.length = F.size ∧ T[0]? = (frameL a)[0]? ∧ Pl.crc T = Pl.dbls E (Pl.acc B k))) (fun i _ => 16 - (intOf i).toNat)
  case atStart => exact ⟨0, bl F, by omega, rfl, hrow, hB3, ⟨bl_length F, by rw [hF.out, bl_ofL], by rw [hF.out, bl_ofL, frameL, Pl.crc_end]; exact (Pl.dbls_nil E).symm⟩⟩
  case round =>
    clear hrow hB3 hcap hbb
    obtain ⟨k, T, hk, rfl, hrow, hB3, hT⟩ := hrel
    by_cases hlt : k < 16
    · obtain ⟨hT1, hT2, hT3⟩ := hT.out
      clear hT
      have hq8 : (n + k) / 8 < T.length := by omega
      obtain ⟨c, hc⟩ : ∃ c, T[(n + k) / 8]? = some c := ⟨T[(n + k) / 8]'hq8, by simp⟩
      have cq : wr.cell? ⟨bb, (n + k) / 8, none⟩ = some (.int .u8 (c.toNat : Int)) := hrow.cell _ _ hc
      have fq : wr.frozen? ⟨bb, (n + k) / 8, none⟩ = false := hrow.free _ hq8
      have hand := and_place B k hB16
      have hxor := xor_place c (n + k)
      have hq1 : 1 ≤ (n + k) / 8 := by omega
      obtain ⟨M, hM⟩ := nm (c ^^^ Pl.mask (n + k))
      rw [← hM.out] at hxor
      by_cases hbit : B / 2 ^ k % 2 = 1
      · have hcmp : (bits BinOp.and IntKind.u16 ((B : Int) / 2 ^ k) 1 == 1) = true := by rw [hand, hbit]; rfl
        have hrow2 := hrow.set _ M hq8
        have hB4 : Below w.heap.size w (wr.setCell ⟨bb, (n + k) / 8, none⟩ (.int .u8 (M.toNat : Int))) := hB3.setCell hbw _
        have hT' : Hid ((T.set ((n + k) / 8) M).length = F.size ∧ (T.set ((n + k) / 8) M)[0]? = (frameL a)[0]? ∧ Pl.crc (T.set ((n + k) / 8) M) = Pl.dbls E (Pl.acc B (k + 1))) := by
          refine ⟨by rw [List.length_set]; exact hT1, by rw [List.getElem?_set_ne (by omega)]; exact hT2, ?_⟩
          rw [hM.out, Pl.crc_place T (n + k) c hc E k (by rw [hE.out, hT1]; omega) (by omega) (by omega), hT3, Pl.acc, if_pos hbit]
          exact (Pl.dbls_xor E _ _ (Pl.acc_lt B k hk) (Nat.lt_of_le_of_lt (Nat.pow_le_pow_right (by decide) (Nat.sub_le 15 k)) (by decide))).symm
        clear hT1 hT2 hT3 hc hand
        go_wp2_with fail
        exact ⟨⟨k + 1, _, by omega, by go_num, hrow2, hB4, hT'⟩, by simp [intOf]; omega⟩
      · have hcmp : (bits BinOp.and IntKind.u16 ((B : Int) / 2 ^ k) 1 == 1) = false := by rw [hand, show B / 2 ^ k % 2 = 0 from by omega]; rfl
        have hT' : Hid (T.length = F.size ∧ T[0]? = (frameL a)[0]? ∧ Pl.crc T = Pl.dbls E (Pl.acc B (k + 1))) :=
          ⟨hT1, hT2, by rw [hT3, Pl.acc, if_neg hbit]⟩
        clear hT1 hT2 hT3 hc hand
        go_wp2_with fail
        exact ⟨⟨k + 1, _, by omega, by go_num, hrow, hB3, hT'⟩, by simp [intOf]; omega⟩
    · obtain rfl : k = 16 := by omega
      obtain ⟨hT1, hT2, hT3⟩ := hT.out
      clear hT
      have hne : Pl.crc T ≠ 0 := by
        rw [hT3]
        intro h
        exact hB0 (Pl.acc_zero B hB16 (Pl.dbls_zero E _ (Pl.acc_lt B 16 (Nat.le_refl _)) h))
      have C1 : Hid (cutL (bl (ofL T)) = ([], 0, 10)) := by
        show _ = _
        rw [bl_ofL]
        exact cut_turned a T hal (by rw [hT1, hF.out, ofL_size]) hT2 hne
      have hcv : (convert 24 9 (.slice (some ⟨bb, 0, none⟩) F.size cap)).run Tryd.prog wr = .ok (.string (ofL T)) wr :=
        conv_str (P := Tryd.prog) wr 24 5 9 Tryd.underlying24 Tryd.underlying5 Tryd.underlying9 bb 0 F.size cap T hT1 (fun i hi => by
          obtain ⟨c, hc⟩ : ∃ c, T[i]? = some c := ⟨T[i]'(by omega), by simp⟩
          rw [Nat.zero_add, hrow.cell i c hc, hc]; rfl)
      have hTs : (ofL T).size ≤ 1000000 := by rw [ofL_size, hT1]; omega
      have e0 : (ofL []).toList = [] := toList_ofL _
      clear hT1 hT2 hT3 hne
      go_wp2_with fail
      refine (cut_is0 _ _ hTs (HT.out.below hB3) C1.out).mono ?_; rintro e w3 ⟨rfl, hB4⟩
      go_wp2_with fail
      go_ret
      exact ⟨rfl, bNext hB3 hB4⟩
theorem foldTurned_walkI (s : ByteArray) (x1 x2 : Int) (k1 : (Lit.int .i64 x1).wf = true) (k2 : (Lit.int .u16 x2).wf = true) (w : World) (ht : Tab w) :
    Calls Tryd.prog 6 #[.string s, .int .i64 x1, .int .u16 x2] w fun e w' => e = .returned (.bool true) ∧ Below w.heap.size w w' := by
  have h1 := Go.bounds_i64 k1
  have h2 := Go.bounds_u16 k2
  obtain ⟨B, rfl⟩ : ∃ B : Nat, x2 = B := ⟨x2.toNat, by omega⟩
  exact foldTurned_walk s x1 (by omega) (by omega) B (by omega) w ht

namespace LFoldTurned
open Go.ChangeShapes Go.WideShapes Go.ChangeAt
open Go.ChangeMaps (open_string shut_string)

theorem contract (H : Type) (enc : TypeId × Value → H) (W : World) (base : Nat) (args : Array Value) (ds gs : List (DataW H)) (before : List MemPlace)
    (hval : ∀ (j : Nat) t v, Tryd.f6.params[j]? = some t → args[j]? = some v → Value.okWide Tryd.prog W .any base t v)
    (hW : DataW.Whole enc Tryd.prog Tryd.f6.params.toList Rows.foldTurnedSpec.vars false W args.toList ds gs before)
    (hL : laidMetH Tryd.prog Rows.foldTurnedRow.laid W)
    (_hsz : (DataW.weightsEach Tryd.prog (Tryd.f6.params.toList ++ (OpenSpec.ofChange Rows.foldTurnedSpec).bare.plain.varTypes Tryd.prog) (ds ++ gs)).all (fun x => decide (x ≤ reachBytes)) = true) :
    Calls Tryd.prog 6 args W fun e W' => ∃ v, e = .returned v ∧ Rows.foldTurnedSpec.post enc Tryd.prog Tryd.f6 false true false false W args v W' := by
  have hW' := hW
  obtain ⟨p, q, hA0, hV, rfl, hfz, hnd⟩ := hW
  have hA : DataW.TrodAll enc Tryd.prog W 0 (fun _ => true) true Tryd.f6.params.toList args.toList ds p := hA0
  rw [Tryd.params6] at hA hval
  obtain ⟨v0, vs0, d0, ds0, p0, q0, hargs, rfl, rfl, h0, r0⟩ := trodAll_cons hA
  obtain ⟨v1, vs1, d1, ds1, p1, q1, rfl, rfl, rfl, h1, r1⟩ := trodAll_cons r0
  obtain ⟨v2, vs2, d2, ds2, p2, q2, rfl, rfl, rfl, h2, r2⟩ := trodAll_cons r1
  obtain ⟨rfl, rfl, rfl⟩ := trodAll_nil r2
  obtain rfl : args = #[v0, v1, v2] := by cases args; simp_all
  obtain ⟨rfl, rfl⟩ := trodVars_none hV
  obtain ⟨x0, rfl, rfl, rfl, k0⟩ := open_string Tryd.underlying9 (hval 0 9 v0 rfl rfl) h0
  obtain ⟨x1, rfl, rfl, rfl, k1⟩ := open_int Tryd.underlying3 (hval 1 3 v1 rfl rfl) h1
  obtain ⟨x2, rfl, rfl, rfl, k2⟩ := open_int Tryd.underlying33 (hval 2 33 v2 rfl rfl) h2
  clear hA0
  refine (foldTurned_walkI x0 x1 x2 k1 k2 W (tab_of hL)).mono fun e W' ⟨he, hb⟩ => ?_
  subst he
  exact ⟨_, rfl, law_post laidOut Tryd.underlying4 rfl (by kernel_rfl) rfl rfl rfl rfl hW' hb⟩

theorem reads (os : Os) {H : Type} (enc : TypeId × Value → H) : ∃ places, DataW.whole enc Tryd.prog ((laidWorld os).forCall (fun _ _ => 0) ⟨#[], #[.string .empty, .int .i64 0, .int .u16 0], []⟩).memory Tryd.f6.params.toList Rows.foldTurnedSpec.vars false (#[.string .empty, .int .i64 0, .int .u16 0] : Array Value).toList 8 = some ([.lit (.string []), .lit (.int .i64 0), .lit (.int .u16 0)], [], places) :=
  ⟨[], by kernel_rfl⟩
theorem laid_met (os : Os) : laidMet Tryd.prog Rows.foldTurnedRow.laid ((laidWorld os).forCall (fun _ _ => 0) ⟨#[], #[.string .empty, .int .i64 0, .int .u16 0], []⟩).memory :=
  laidMet_of_run' 8 (by kernel_rfl) (by kernel_rfl)

set_option maxRecDepth 100000 in
theorem lifted (os : Os) (started : os.Started) (H : Type) (enc : TypeId × Value → H) (F : Stop.Interp) :
    ReturnsInHanded {} Tryd.checked os 6 .any ((OpenSpec.ofChange Rows.foldTurnedSpec).preRow enc Tryd.prog Tryd.f6 Rows.foldTurnedRow.domain false Rows.foldTurnedRow.laid) (((OpenSpec.ofChange Rows.foldTurnedSpec).at F).post enc Tryd.prog Tryd.f6 false true false false) := by
  obtain ⟨places, hx⟩ := reads os enc
  refine returnsInHanded_of_row (C := Tryd.checked) (s := OpenSpec.ofChange Rows.foldTurnedSpec) own started (by kernel_rfl) Tryd.func6
    (witness_row_at (enc := enc) (C := Tryd.checked) false (laidWorld os) #[.string .empty, .int .i64 0, .int .u16 0] rfl (by kernel_rfl) (by kernel_rfl) (by kernel_rfl)
      (OpenSpec.preRow_of_cond 8 hx (by kernel_rfl) (fun k hk => by cases hk) (by kernel_rfl) (laid_met os))) ?_
  intro W base args ds gs before hval hW _ _ hsz hL _ _
  exact contract H enc W base args ds gs before hval hW hL hsz

theorem said : Rows.FoldTurnedSaid :=
  OpenClaim.holds_of_cond 6 Tryd.f6 rfl rfl rfl rfl rfl rfl rfl ⟨rfl, rfl, rfl, rfl, rfl⟩ rfl rfl rfl rfl rfl (by kernel_rfl) Tryd.func6 (by kernel_rfl)
    (of_decide_eq_true (by kernel_rfl)) (by unfold Func.isWrapper; first | (rw [if_pos (by decide +kernel)]; kernel_rfl) | (rw [if_neg (by decide +kernel)]; exact ⟨rfl, rfl⟩))
    (fun os started H enc _ F => by rw [OpenClaim.pre_eq_preRow]; exact lifted os started H enc F)

theorem plain (f : FuncId) (fn : Func) (hf : Tryd.pinned.checked.prog.funcNamed "caravan/caravanlaw02.FoldTurned" = some f) (hfn : Tryd.pinned.checked.prog.funcs[f]? = some fn) :
    false = Tryd.pinned.checked.prog.looks [] ∧ ∀ (j : Nat) t, fn.params[j]? = some t → Tryd.pinned.checked.prog.wantsStandIn t = false := by
  obtain rfl : f = 6 := Option.some.inj ((show Tryd.prog.funcNamed "caravan/caravanlaw02.FoldTurned" = some 6 by kernel_rfl).symm.trans hf) |>.symm
  obtain rfl : fn = Tryd.f6 := (Option.some.inj (Tryd.func6.symm.trans hfn)).symm
  refine ⟨by kernel_rfl, fun j t ht => ?_⟩
  have hm : t ∈ Tryd.f6.params.toList := Array.mem_toList_iff.2 (Array.mem_of_getElem? ht)
  have hall : (Tryd.f6.params.toList.all fun t => Tryd.prog.wantsStandIn t == false) = true := by kernel_rfl
  have := List.all_eq_true.1 hall t hm
  exact (show Tryd.prog.wantsStandIn t = false by simpa using this)

theorem card : Rows.FoldTurnedCardSaid :=
  Claim7.holds_tied_plain_at .later [] _ _ _ _ said (fun _ h => by cases h) (by kernel_rfl) (fun _ h => by cases h) foldTurned_row_tie rfl ⟨rfl, rfl⟩ (by kernel_rfl) rfl plain (by kernel_rfl)
end LFoldTurned
end Go.Proofs.YtoiogpjnfipkfaaDoor
