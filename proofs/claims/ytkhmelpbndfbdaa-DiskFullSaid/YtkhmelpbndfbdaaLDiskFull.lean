/- DiskFull: for every number and every row of texts the law returns true. -/
import Derived.Test.YtkhmelpbndfbdaaDiskAwake
import Derived.Test.YtkhmelpbndfbdaaBytes
import Derived.Test.YtkhmelpbndfbdaaSlices
namespace Go.Proofs.Ytkhmelpbndfbdaa
open Go.RowKit

set_option maxRecDepth 100000 in
set_option maxHeartbeats 8000000 in
theorem diskFull_walk (room : Int) (ao : Option Addr) (len cap : Nat) (ss : List ByteArray) (hlen : ss.length = len) (w : World) (hat : SlAt w ao (ss.map Value.string)) :
    Calls Try.prog 4 #[.int .i64 room, .slice ao len cap] w fun e w' => e = .returned (.bool true) ∧ Below w.heap.size w w' := by
  obtain ⟨K, hK, hm⟩ := and_mask room 63 (by decide)
  have hm2 : bits BinOp.and IntKind.i64 room 63 = (K : Int) := hm
  clear hm
  obtain ⟨n, hn⟩ := nm (1 + K)
  have hn1 : 1 ≤ n := by rw [hn.out]; omega
  have hn2 : n ≤ 64 := by rw [hn.out]; omega
  have HAT := Lib.hid hat
  clear hat
  have HL := Lib.hid hlen
  clear hlen
  go_enter Try.func4, Try.ntmps4
  go_wp2_with fail
  refine (awake_any _).mono ?_; rintro e w0 ⟨rfl, hB⟩
  go_upto_region 2 with fail
  go_cut [6] (fun s6 wx => s6 = .int .i64 (n : Int) ∧ w0 = wx)
  case first =>
    go_wp2_with fail
    go_meet
    exact ⟨congrArg _ (by rw [hn.out]; omega), rfl⟩
  obtain ⟨rfl, rfl⟩ := hcut
  clear hm2 hK
  go_wp2_with fail
  refine (dnew2_any _ _ (by omega) (by omega)).mono ?_; rintro e w1 ⟨b, rfl, hb, hd, hB1⟩
  replace hb := Nat.le_trans hB.size hb
  replace hB := bNext hB hB1
  clear hB1
  go_wp2_with fail
  go_loopw [8, 9] (fun h i wr => ∃ (k : Nat) (t : ByteArray) (st : Nat), k ≤ 20 ∧ k ≤ len ∧ i = .int .i64 (k : Int) ∧ h = .int .i64 (t.size : Int) ∧ t.size ≤ n ∧ st ≤ k ∧ IsDk wr b ⟨⟨#[]⟩, t, n, st, true, false, 0⟩ ∧ Below w.heap.size w wr) (fun _ i _ => 20 - (intOf i).toNat)
  case atStart => exact ⟨0, ⟨#[]⟩, 0, by omega, by omega, rfl, rfl, by rw [nil_size]; omega, by omega, hd, hB⟩
  case round =>
    clear hd hB
    obtain ⟨k, t, st, hk1, hk2, rfl, rfl, ht, hst, hd, hB⟩ := hrel
    by_cases hlt : k < len ∧ k < 20
    · obtain ⟨hlt1, hlt2⟩ := hlt
      obtain ⟨bs, off, rfl, hbs, hcs⟩ := HAT.out k (by rw [List.length_map, HL.out]; exact hlt1)
      obtain ⟨s, hs⟩ := nm (ss.getD k ⟨#[]⟩)
      have hcell : wr.cell? ⟨bs, off + k, none⟩ = some (.string s) := by
        have h1 := hcs k (by rw [List.length_map, HL.out]; exact hlt1)
        rw [hB.cell (p := ⟨bs, off + k, none⟩) hbs, h1, hs.out]
        have : k < ss.length := by rw [HL.out]; exact hlt1
        simp [this]
      clear hcs
      have h10 := cutB_cases s 10
      have h10l := cutB_le s 10
      obtain ⟨s2, hs2⟩ := nm (cutB s 10)
      rw [← hs2.out] at h10 h10l
      go_upto_if 38 with fail
      go_cut [10] (fun s10 wx => s10 = .string s2 ∧ wr = wx)
      case first =>
        rcases h10 with ⟨h, e⟩ | ⟨h, rfl⟩
        all_goals
          go_wp2_with fail
          go_meet
          exact ⟨rfl, rfl⟩
      obtain ⟨rfl, rfl⟩ := hcut
      clear h10
      by_cases hfit : t.size + s2.size ≤ n
      · have a1 : (⟨⟨#[]⟩, t, n, st, true, false, 0⟩ : Dk).append s2 = (⟨⟨#[]⟩, t ++ s2, n, (st : Int) + 1, true, false, 0⟩, 0) :=
          append_free _ _ rfl rfl (by simp [nil_size]; omega)
        have A1 := Lib.hid a1
        clear a1
        go_wp2_with fail
        refine (dappend_any b _ _ _ hd (by simp [nil_size]; omega) (by simp; omega) (by simp)).mono ?_; rintro e w2 ⟨rfl, hd, hk⟩
        rw [A1.out] at hd ⊢; replace hB := bKept hB hk hb; clear hk
        go_wp2_with fail
        go_roundw
        case rel => exact ⟨k + 1, t ++ s2, st + 1, by omega, by omega, by go_num, congrArg _ (by rw [app_size]; omega), by rw [app_size]; omega, by omega, hd, hB⟩
        case measure => simp [intOf]; omega
      · have a1 : (⟨⟨#[]⟩, t, n, st, true, false, 0⟩ : Dk).append s2 = (⟨⟨#[]⟩, t, n, st, true, false, 0⟩, 15) :=
          append_full _ _ rfl (by simp [nil_size]; omega)
        have A1 := Lib.hid a1
        clear a1
        go_wp2_with fail
        refine (dappend_any b _ _ _ hd (by simp [nil_size]; omega) (by simp; omega) (by simp)).mono ?_; rintro e w2 ⟨rfl, hd, hk⟩
        rw [A1.out] at hd ⊢; replace hB := bKept hB hk hb; clear hk
        go_wp2_with fail
        go_roundw
        case rel => exact ⟨k + 1, t, st, by omega, by omega, by go_num, rfl, ht, by omega, hd, hB⟩
        case measure => simp [intOf]; omega
    · have hmk : ∀ w : World, (Instr.makeSlice 34 (.int .i64 ((n : Int) + 1)) (.int .i64 ((n : Int) + 1))).run Try.prog w = .ok (.slice (some ⟨w.heap.size, 0, none⟩) (n + 1) (n + 1)) (w.alloc (.cells (madeCells #[.int .u8 0] (n + 1)) 5)) := fun w => make_bytes (n + 1) (by omega) w
      have hmk2 : ∀ w : World, (Instr.makeSlice 34 (.int .i64 (n : Int)) (.int .i64 (n : Int))).run Try.prog w = .ok (.slice (some ⟨w.heap.size, 0, none⟩) n n) (w.alloc (.cells (madeCells #[.int .u8 0] n) 5)) := fun w => make_bytes n (by omega) w
      have hcv : ∀ m : Nat, ∀ w : World, (convert 34 9 (.slice (some ⟨w.heap.size, 0, none⟩) m m)).run Try.prog (w.alloc (.cells (madeCells #[.int .u8 0] m) 5)) = .ok (.string (ofL (List.replicate m 0))) (w.alloc (.cells (madeCells #[.int .u8 0] m) 5)) :=
        fun m w => conv_new (P := Try.prog) w _ _ _ _ Try.underlying34 Try.underlying5 Try.underlying9 m m (List.replicate m 0) _ (by simp) (zeroCells m)
      have hcv1 := hcv (n + 1)
      have hcv2 := hcv n
      clear hcv
      obtain ⟨Z1, hZ1⟩ := nm (ofL (List.replicate (n + 1) 0))
      obtain ⟨Z2, hZ2⟩ := nm (ofL (List.replicate n 0))
      rw [← hZ1.out] at hcv1
      rw [← hZ2.out] at hcv2
      have l1 : Z1.size = n + 1 := by rw [hZ1.out, ofL_size, List.length_replicate]
      have l2 : Z2.size = n := by rw [hZ2.out, ofL_size, List.length_replicate]
      have a1 : (⟨⟨#[]⟩, t, n, st, true, false, 0⟩ : Dk).swap Z1 = (⟨⟨#[]⟩, t, n, st, true, false, 0⟩, 15) := swap_full _ _ rfl (by simp; omega)
      have a2 : (⟨⟨#[]⟩, t, n, st, true, false, 0⟩ : Dk).swap Z2 = (⟨Z2, ⟨#[]⟩, n, (st : Int) + 1, true, false, 0⟩, 0) := swap_free _ _ rfl rfl (by simp; omega)
      have a3 : (⟨Z2, ⟨#[]⟩, n, (st : Int) + 1, true, false, 0⟩ : Dk).append ⟨#[]⟩ = (⟨Z2, ⟨#[]⟩, n, (st : Int) + 2, true, false, 0⟩, 0) := by
        rw [append_free _ _ rfl rfl (by simp [nil_size]; omega)]; simp [nil_append]; omega
      have A := And.intro (Lib.hid a1) (And.intro (Lib.hid a2) (Lib.hid a3))
      have L1 := Lib.hid l1
      clear a1 a2 a3 l1
      obtain ⟨a1, a2, a3⟩ := A
      go_wp2_with fail
      all_goals
        refine (dswap_any b _ _ _ (Blk.alloc hd _) (by simp; omega) (by simp)).mono ?_; rintro e w2 ⟨rfl, hd2, hk⟩
        rw [a1.out] at hd2 ⊢
        have hB2 := bKept (bNew hB _) hk hb
        clear hk
        go_wp2_with fail
        refine (dswap_any b _ _ _ (Blk.alloc hd2 _) (by simp; omega) (by simp)).mono ?_; rintro e w3 ⟨rfl, hd3, hk⟩
        rw [a2.out] at hd3 ⊢
        have hB3 := bKept (bNew hB2 _) hk hb
        clear hk
        go_wp2_with fail
        refine (dsafe_any b _ _ hd3).mono ?_; rintro e w4 ⟨rfl, rfl⟩
        go_wp2_with fail
        refine (dappend_any b _ _ _ hd3 (by simp [nil_size]; omega) (by simp; omega) (by simp)).mono ?_; rintro e w4 ⟨rfl, hd4, hk⟩
        rw [a3.out]
        have hB4 := bKept hB3 hk hb
        go_wp2_with fail
        go_ret
        exact ⟨rfl, hB4⟩

namespace LDiskFull
open Go.ChangeShapes Go.WideShapes Go.ChangeAt
open Go.ChangeMaps (open_string shut_string)

theorem contract (H : Type) (enc : TypeId × Value → H) (W : World) (base : Nat) (args : Array Value) (ds gs : List (DataW H)) (before : List MemPlace)
    (hval : ∀ (j : Nat) t v, Try.f4.params[j]? = some t → args[j]? = some v → Value.okWide Try.prog W .any base t v)
    (hW : DataW.Whole enc Try.prog Try.f4.params.toList Rows.diskFullSpec.vars false W args.toList ds gs before)
    (_hsz : (DataW.weightsEach Try.prog (Try.f4.params.toList ++ (OpenSpec.ofChange Rows.diskFullSpec).bare.plain.varTypes Try.prog) (ds ++ gs)).all (fun x => decide (x ≤ reachBytes)) = true) :
    Calls Try.prog 4 args W fun e W' => ∃ v, e = .returned v ∧ Rows.diskFullSpec.post enc Try.prog Try.f4 false true false false W args v W' := by
  have hW' := hW
  obtain ⟨p, q, hA0, hV, rfl, hfz, hnd⟩ := hW
  have hA : DataW.TrodAll enc Try.prog W 0 (fun _ => true) true Try.f4.params.toList args.toList ds p := hA0
  rw [Try.params4] at hA hval
  obtain ⟨v0, vs0, d0, ds0, p0, q0, hargs, rfl, rfl, h0, r0⟩ := trodAll_cons hA
  obtain ⟨v1, vs1, d1, ds1, p1, q1, rfl, rfl, rfl, h1, r1⟩ := trodAll_cons r0
  obtain ⟨rfl, rfl, rfl⟩ := trodAll_nil r1
  obtain rfl : args = #[v0, v1] := by cases args; simp_all
  obtain ⟨rfl, rfl⟩ := trodVars_none hV
  obtain ⟨x0, rfl, rfl, rfl, k0⟩ := open_int Try.underlying3 (hval 0 3 v0 rfl rfl) h0
  obtain ⟨ao, len, cap, ss, rfl, hl, _, _, hat⟩ := open_strs Try.underlying22 Try.underlying9 (show Try.prog.cellsOf 9 = 1 by kernel_rfl) h1 (okWide_slice Try.underlying22 (hval 1 22 v1 rfl rfl))
  clear hA0
  refine (diskFull_walk x0 ao len cap ss hl W hat).mono fun e W' ⟨he, hb⟩ => ?_
  subst he
  exact ⟨_, rfl, law_post laidOut Try.underlying4 rfl (by kernel_rfl) rfl rfl rfl rfl hW' hb⟩

theorem reads (os : Os) {H : Type} (enc : TypeId × Value → H) : ∃ places, DataW.whole enc Try.prog ((World.holding Try.prog os ⟨#[], #[], []⟩).forCall (fun _ _ => 0) ⟨#[], #[.int .i64 0, .slice none 0 0], []⟩).memory Try.f4.params.toList Rows.diskFullSpec.vars false (#[.int .i64 0, .slice none 0 0] : Array Value).toList 8 = some ([.lit (.int .i64 0), .nil], [], places) :=
  ⟨[], by kernel_rfl⟩
theorem laid_met (os : Os) : laidMet Try.prog Rows.diskFullRow.laid ((World.holding Try.prog os ⟨#[], #[], []⟩).forCall (fun _ _ => 0) ⟨#[], #[.int .i64 0, .slice none 0 0], []⟩).memory :=
  laidMet_of_run' 8 (by kernel_rfl) (by kernel_rfl)

set_option maxRecDepth 100000 in
theorem lifted (os : Os) (started : os.Started) (H : Type) (enc : TypeId × Value → H) (F : Stop.Interp) :
    ReturnsInHanded {} Try.checked os 4 .any ((OpenSpec.ofChange Rows.diskFullSpec).preRow enc Try.prog Try.f4 Rows.diskFullRow.domain false Rows.diskFullRow.laid) (((OpenSpec.ofChange Rows.diskFullSpec).at F).post enc Try.prog Try.f4 false true false false) := by
  obtain ⟨places, hx⟩ := reads os enc
  refine returnsInHanded_of_row (C := Try.checked) (s := OpenSpec.ofChange Rows.diskFullSpec) own started (by kernel_rfl) Try.func4
    (witness_row_at (enc := enc) (C := Try.checked) false (World.holding Try.prog os ⟨#[], #[], []⟩) #[.int .i64 0, .slice none 0 0] rfl (by kernel_rfl) (by kernel_rfl) (by kernel_rfl)
      (OpenSpec.preRow_of_cond 8 hx (by kernel_rfl) (fun k hk => by cases hk) (by kernel_rfl) (laid_met os))) ?_
  intro W base args ds gs before hval hW _ _ hsz hL _ _
  exact contract H enc W base args ds gs before hval hW hsz

theorem said : Rows.DiskFullSaid :=
  OpenClaim.holds_of_cond 4 Try.f4 rfl rfl rfl rfl rfl rfl rfl ⟨rfl, rfl, rfl, rfl, rfl⟩ rfl rfl rfl rfl rfl (by kernel_rfl) Try.func4 (by kernel_rfl)
    (of_decide_eq_true (by kernel_rfl)) (by unfold Func.isWrapper; first | (rw [if_pos (by decide +kernel)]; kernel_rfl) | (rw [if_neg (by decide +kernel)]; exact ⟨rfl, rfl⟩))
    (fun os started H enc _ F => by rw [OpenClaim.pre_eq_preRow]; exact lifted os started H enc F)
end LDiskFull
end Go.Proofs.Ytkhmelpbndfbdaa
