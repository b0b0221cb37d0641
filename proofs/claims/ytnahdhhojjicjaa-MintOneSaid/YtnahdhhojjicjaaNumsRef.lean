/- The document's list of numbers; few. -/
import Derived.Test.YtnahdhhojjicjaaNums
import Derived.Test.YtnahdhhojjicjaaNums0
namespace Go.Proofs.Ytnahdhhojjicjaa
open Go.RowKit

set_option maxRecDepth 100000 in
set_option maxHeartbeats 1000000 in
theorem refnums_any (ao : Option Addr) (len cap : Nat) (zs : List Int) (hl : zs.length = len) (hlen : len ≤ 1000000) (hz : ∀ z ∈ zs, z ≤ 9223372036854775807) (w : World) (hat : SlAt w ao (zs.map (Value.int .i64))) :
    Calls Try.prog 21 #[.slice ao len cap] w fun e w' => e = .returned (.string (ofL (numsL zs))) ∧ Below w.heap.size w w' := by
  have HAT := Lib.hid hat
  clear hat
  have HL := Lib.hid hl
  clear hl
  have HZ := Lib.hid hz
  clear hz
  go_enter Try.func21, Try.ntmps21
  go_wp2_with fail
  refine (refnum_any len _ (by omega)).mono ?_; rintro e w1 ⟨rfl, h1⟩
  go_wp2_with fail
  go_loopw [3, 4] (fun s i wr => ∃ k : Nat, k ≤ len ∧ i = .int .i64 (k : Int) ∧ s = .string (ofL (Pl.num len ++ intsL (zs.take k))) ∧ Below w.heap.size w wr) (fun _ i _ => len - (intOf i).toNat)
  case atStart => exact ⟨0, Nat.zero_le _, rfl, by simp [intsL], h1⟩
  case round =>
    clear h1
    obtain ⟨k, hk, rfl, rfl, hW⟩ := hrel
    by_cases hlt : k < len
    · obtain ⟨bs, off, rfl, hbs, hcell⟩ := SlAt.int HAT.out k (by rw [HL.out]; exact hlt)
      obtain ⟨z, hzz⟩ := nm (zs[k]'(by rw [HL.out]; exact hlt))
      have hz63 : z ≤ 9223372036854775807 := by rw [hzz.out]; exact HZ.out _ (List.getElem_mem _)
      rw [← hzz.out] at hcell
      have hc : wr.cell? ⟨bs, off + k, none⟩ = some (.int .i64 z) := (hW.cell (p := ⟨bs, off + k, none⟩) hbs).trans hcell
      clear hcell
      have hsz : (ofL (Pl.num len ++ intsL (zs.take k))).size ≤ 10 + 10 * 1000000 := by
        have h1 := intsL_le (zs.take k) (fun z hz => HZ.out z (List.mem_of_mem_take hz))
        have h2 := Pl.num_length_le len (by omega)
        rw [ofL_size, List.length_append]
        rw [List.length_take] at h1
        omega
      have hzl : (ofL (Pl.num z.toNat)).size ≤ 10 := by rw [ofL_size]; exact Pl.num_length_le _ (by omega)
      have hnx : Hid (ofL (Pl.num len ++ intsL (zs.take k)) ++ ofL (Pl.num z.toNat) = ofL (Pl.num len ++ intsL (zs.take (k + 1)))) := by
        show _ = _
        rw [ofL_append, intsL_take _ _ (by rw [HL.out]; exact hlt), ← hzz.out, ← List.append_assoc]
      obtain ⟨S, hS⟩ := nm (ofL (Pl.num len ++ intsL (zs.take k)))
      rw [← hS.out] at hsz hnx ⊢
      go_wp2_with fail
      refine (ref_int z _ hz63).mono ?_; rintro e w3 ⟨rfl, h1⟩
      have hW3 := hW.trans (h1.mono hW.size)
      go_wp2_with fail
      go_roundw
      case rel => exact ⟨k + 1, by omega, by go_num, by rw [hnx.out], hW3⟩
      case measure => simp [intOf]; omega
    · obtain rfl : k = len := by omega
      have e1 : zs.take k = zs := List.take_of_length_le (by rw [HL.out]; exact Nat.le_refl _)
      rw [e1]
      go_wp2_with fail
      go_ret
      exact ⟨by rw [numsL, HL.out]; rfl, hW⟩

set_option maxRecDepth 100000 in
set_option maxHeartbeats 400000 in
theorem few_any (ao : Option Addr) (len cap : Nat) (w : World) (hcap : len ≤ cap) (hao : len ≠ 0 → ∃ b off, ao = some ⟨b, off, none⟩) :
    Calls Try.prog 15 #[.slice ao len cap] w fun e w' => e = .returned (.slice ao (min len 20) cap) ∧ w = w' := by
  by_cases h : 20 < len
  · obtain ⟨b, off, rfl⟩ := hao (by omega)
    rw [show min len 20 = 20 from by omega]
    go_enter Try.func15, Try.ntmps15
    go_wp2_with fail
    go_ret
    exact ⟨rfl, rfl⟩
  · rw [show min len 20 = len from by omega]
    go_enter Try.func15, Try.ntmps15
    go_wp2_with fail
    go_ret
    exact ⟨rfl, rfl⟩

end Go.Proofs.Ytnahdhhojjicjaa
