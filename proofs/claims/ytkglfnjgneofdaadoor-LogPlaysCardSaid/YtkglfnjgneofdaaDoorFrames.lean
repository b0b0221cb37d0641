/- The frames of records: the program's walk over a builder. -/
import Derived.Test.YtkglfnjgneofdaaDoorAll
import Derived.Test.YtkglfnjgneofdaaDoorBuilder
import Derived.WalkMore
namespace Go.Proofs.YtkglfnjgneofdaaDoor
open Go.RowKit

/-- Bodies, framed one behind another. -/
def joinF (l : List (List UInt8)) : List UInt8 := l.flatMap frameL
theorem joinF_snoc (l : List (List UInt8)) (b : List UInt8) : joinF (l ++ [b]) = joinF l ++ frameL b := by simp [joinF]
theorem joinF_cons (l : List (List UInt8)) (b : List UInt8) : joinF (b :: l) = frameL b ++ joinF l := by simp [joinF]
theorem allF_join : ∀ (l : List (List UInt8)) (f : Nat), l.length < f → (∀ b ∈ l, b.length ≤ 8000) → allF f (joinF l) = (l, (joinF l).length)
  | [], f + 1, _, _ => by
    have h : (cutL []).2.2 = 12 := by decide +kernel
    show allF (f + 1) [] = ([], 0)
    rw [allF, if_neg (by rw [h]; decide)]
  | b :: l, f + 1, h, hb => by
    have hc := cut_back b (joinF l) (hb b (by simp))
    rw [joinF_cons, allF, hc]
    simp only
    rw [if_pos trivial, List.drop_left' rfl, allF_join l f (by simpa using h) (fun x hx => hb x (by simp [hx])), List.length_append]
theorem joinF_le (l : List (List UInt8)) (h : ∀ b ∈ l, b.length ≤ 100) : (joinF l).length ≤ 103 * l.length ∧ l.length ≤ (joinF l).length := by
  induction l with
  | nil => exact ⟨Nat.le_refl _, Nat.le_refl _⟩
  | cons b l ih =>
    have h1 := ih (fun x hx => h x (by simp [hx]))
    have h2 := frame_length b
    have h3 := h b (by simp)
    rw [nd_one (by omega)] at h2
    rw [joinF_cons, List.length_append, List.length_cons]
    omega

/-- The frames of some texts; which error, if one is too long. -/
def framesB (rs : List ByteArray) : ByteArray := if rs.all (fun r => decide (r.size ≤ 8000)) then ofL (joinF (rs.map bl)) else ⟨#[]⟩
def framesE (rs : List ByteArray) : Int := if rs.all (fun r => decide (r.size ≤ 8000)) then 0 else 11

theorem joinF_le2 (l : List (List UInt8)) (h : ∀ b ∈ l, b.length ≤ 8000) : (joinF l).length ≤ 8004 * l.length := by
  induction l with
  | nil => exact Nat.le_refl _
  | cons b l ih =>
    have h1 := ih (fun x hx => h x (by simp [hx]))
    have h2 := frame_length b
    have h3 := h b (by simp)
    have h4 : Pl.nd b.length ≤ 2 := by
      by_cases h : b.length < 128
      · rw [nd_one h]; omega
      · rw [nd_two h (by omega)]; omega
    rw [joinF_cons, List.length_append, List.length_cons]
    omega

set_option maxRecDepth 100000 in
set_option maxHeartbeats 4000000 in
theorem frames_any (ao : Option Addr) (cap : Nat) (rs : List ByteArray) (hlen : rs.length ≤ 1000) (hsz : ∀ r ∈ rs, r.size ≤ 1000000) (w : World) (ht : Tab w) (hat : SlAt w ao (rs.map Value.string)) :
    Calls Tryd.prog 44 #[.slice ao rs.length cap] w fun e w' => e = .returned (.tuple #[.string (framesB rs), .int .i64 (framesE rs)]) ∧ Below w.heap.size w w' := by
  have HT : Hid (Tab w) := ht
  have HAT := Lib.hid hat
  have HSZ := Lib.hid hsz
  clear ht hat hsz
  obtain ⟨len, hl⟩ := nm rs.length
  rw [← hl.out] at hlen ⊢
  have hB0 := bnew w
  have hBw : Below w.heap.size w (w.alloc (.cells #[.pointer none, .slice none 0 0] 82)) := (Below.refl _ _).alloc (Nat.le_refl _) _
  go_enter Tryd.func44, Tryd.ntmps44
  go_wp2_with fail
  go_step3
  go_wp2_with fail
  go_step3
  go_wp2_with fail
  go_loopw [5, 11] (fun x i wr => ∃ k : Nat, k ≤ len ∧ x = .int .i64 0 ∧ i = .int .i64 (k : Int) ∧ Lib.IsBuilder 82 5 w.heap.size w.heap.size (Lib.byteCells (joinF ((rs.take k).map bl))) wr ∧ Below w.heap.size w wr ∧
    Hid (∀ r ∈ rs.take k, r.size ≤ 8000)) (fun _ i _ => len - (intOf i).toNat)
  case atStart => exact ⟨0, by omega, rfl, rfl, hB0, hBw, fun r hr => by simp at hr⟩
  case round =>
    clear hB0 hBw
    obtain ⟨k, hk, rfl, rfl, hB, hW, hI⟩ := hrel
    by_cases hlt : k < len
    · obtain ⟨bs, off, rfl, hbs, hcell⟩ := SlAt.str HAT.out k (by rw [← hl.out]; exact hlt)
      obtain ⟨r, hr⟩ := nm (rs[k]'(by rw [← hl.out]; exact hlt))
      have hrs : r.size ≤ 1000000 := by rw [hr.out]; exact HSZ.out _ (List.getElem_mem _)
      rw [← hr.out] at hcell
      have hc : wr.cell? ⟨bs, off + k, none⟩ = some (.string r) := (hW.cell (p := ⟨bs, off + k, none⟩) hbs).trans hcell
      clear hcell
      by_cases h8 : r.size ≤ 8000
      · have HI : Hid (∀ r ∈ rs.take (k + 1), r.size ≤ 8000) := by
          show ∀ _, _
          rw [List.take_succ_eq_append_getElem (by rw [← hl.out]; exact hlt), ← hr.out]
          intro x hx
          rcases List.mem_append.1 hx with h | h
          · exact hI.out x h
          · rw [List.mem_singleton.1 h]; exact h8
        have hjl := joinF_le2 ((rs.take k).map bl) (fun b hb => by
          obtain ⟨x, hx, rfl⟩ := List.mem_map.1 hb
          rw [bl_length]; exact hI.out x hx)
        rw [List.length_map, List.length_take] at hjl
        have hJ : Hid (joinF ((rs.take (k + 1)).map bl) = joinF ((rs.take k).map bl) ++ bl (ofL (frameL (bl r)))) := by
          show _ = _
          rw [List.take_succ_eq_append_getElem (by rw [← hl.out]; exact hlt), ← hr.out, List.map_append, bl_ofL]
          exact joinF_snoc _ _
        have hfl := frame_length (bl r)
        have hnd : Pl.nd (bl r).length ≤ 2 := by
          by_cases h : (bl r).length < 128
          · rw [nd_one h]; omega
          · rw [nd_two h (by rw [bl_length]; omega)]; omega
        rw [bl_length] at hfl hnd
        obtain ⟨F, hF⟩ := nm (ofL (frameL (bl r)))
        have hFs : F.size ≤ 8004 := by rw [hF.out, ofL_size]; omega
        rw [← hF.out] at hJ
        clear hfl hnd
        have hjl2 : (joinF ((rs.take k).map bl)).length ≤ 8004 * 1000 := by omega
        clear hjl hI
        go_wp2_with fail
        refine (wrap_any r _ (by omega) (HT.out.below hW)).mono ?_; rintro e w3 ⟨rfl, h1⟩
        rw [wrapL_yes (by rw [bl_length]; exact h8), wrapE_yes (by rw [bl_length]; exact h8), ← hF.out]
        have hB3 := bstays hB h1
        have hW3 := bNext hW h1
        clear hB h1 hW hc
        go_wp2_with fail
        refine (bwrite_any _ _ _ _ _ hB3 (by omega) hW3.size).mono ?_; rintro e w4 ⟨rfl, hB4, h2⟩
        have hW4 := hW3.trans h2
        rw [← hJ.out] at hB4
        clear hB3 h2 hW3
        go_wp2_with fail
        go_roundw
        case rel => exact ⟨k + 1, by omega, rfl, by go_num, hB4, hW4, HI⟩
        case measure => simp [intOf]; omega
      · have hno : rs.all (fun r => decide (r.size ≤ 8000)) = false := by
          rw [List.all_eq_false]
          exact ⟨r, by rw [hr.out]; exact List.getElem_mem _, by simpa using h8⟩
        have HE : Hid (framesB rs = ⟨#[]⟩ ∧ framesE rs = 11) := by
          rw [framesB, framesE, hno]
          exact ⟨rfl, rfl⟩
        clear hI hB
        go_wp2_with fail
        refine (wrap_any r _ (by omega) (HT.out.below hW)).mono ?_; rintro e w3 ⟨rfl, h1⟩
        rw [wrapL_no (by rw [bl_length]; exact h8), wrapE_no (by rw [bl_length]; exact h8)]
        have hW3 := bNext hW h1
        clear h1 hW hc
        go_wp2_with fail
        (first | go_ret2 | (rw [Exit.noGoto_ret]; go_ret2))
        rw [HE.out.1, HE.out.2]
        exact ⟨rfl, hW3⟩
    · obtain rfl : k = len := by omega
      have e1 : rs.take k = rs := List.take_of_length_le (by rw [← hl.out]; exact Nat.le_refl _)
      rw [e1] at hB
      have hyes : rs.all (fun r => decide (r.size ≤ 8000)) = true := by
        rw [List.all_eq_true]
        intro r hr
        have := hI.out r (by rw [e1]; exact hr)
        simpa using this
      have HE : Hid (framesB rs = ofL (joinF (rs.map bl)) ∧ framesE rs = 0) := by
        rw [framesB, framesE, hyes]
        exact ⟨rfl, rfl⟩
      clear hI hyes e1
      go_wp2_with fail
      refine (Tryd.Builder_String_any _ _ _ _ hB hW.size).mono ?_; rintro e w3 ⟨rfl, h1⟩
      have hW3 := hW.trans h1
      go_wp2_with fail
      (first | go_ret2 | (rw [Exit.noGoto_ret]; go_ret2))
      rw [HE.out.1, HE.out.2]
      exact ⟨rfl, hW3⟩

end Go.Proofs.YtkglfnjgneofdaaDoor
