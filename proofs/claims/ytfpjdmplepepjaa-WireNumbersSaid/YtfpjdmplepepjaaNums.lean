/- Lists of numbers as bytes: the program's walk over a builder, the document's over a text. -/
import Derived.Test.YtfpjdmplepepjaaBuilder
import Derived.Test.YtfpjdmplepepjaaMint
import Derived.Test.YtfpjdmplepepjaaInt
import Derived.Test.YtfpjdmplepepjaaSlices
namespace Go.Proofs.Ytfpjdmplepepjaa
open Go.RowKit

/-- The bytes of a list. -/
def intsL (l : List Int) : List UInt8 := l.flatMap fun z => Pl.num z.toNat
def numsL (l : List Int) : List UInt8 := Pl.num l.length ++ intsL l

theorem intsL_take (l : List Int) (k : Nat) (h : k < l.length) : intsL (l.take (k + 1)) = intsL (l.take k) ++ Pl.num (l[k]).toNat := by
  rw [intsL, intsL, List.take_succ_eq_append_getElem h, List.flatMap_append]
  simp only [List.flatMap_cons, List.flatMap_nil, List.append_nil]

theorem intsL_le : ∀ (l : List Int), (∀ z ∈ l, z ≤ 9223372036854775807) → (intsL l).length ≤ 10 * l.length
  | [], _ => by simp [intsL]
  | z :: l, h => by
    have h1 := intsL_le l (fun y hy => h y (by simp [hy]))
    have h2 := Pl.num_length_le z.toNat (by have := h z (by simp); omega)
    have e : intsL (z :: l) = Pl.num z.toNat ++ intsL l := by simp [intsL]
    rw [e, List.length_append, List.length_cons]; omega

/-- Element k of a slice of numbers. -/
theorem SlAt.int {w : World} {ao : Option Addr} {zs : List Int} (h : SlAt w ao (zs.map (Value.int .i64))) (k : Nat) (hk : k < zs.length) :
    ∃ b off, ao = some ⟨b, off, none⟩ ∧ b < w.heap.size ∧ w.cell? ⟨b, off + k, none⟩ = some (.int .i64 zs[k]) := by
  obtain ⟨b, off, h1, h2, h3⟩ := h k (by simpa using hk)
  refine ⟨b, off, h1, h2, ?_⟩
  rw [h3 k (by simpa using hk)]
  simp [hk]

set_option maxRecDepth 100000 in
set_option maxHeartbeats 1000000 in
theorem nums_any (ao : Option Addr) (len cap : Nat) (zs : List Int) (hl : zs.length = len) (hlen : len ≤ 1000000) (hz : ∀ z ∈ zs, z ≤ 9223372036854775807) (w : World) (hat : SlAt w ao (zs.map (Value.int .i64))) :
    Calls Try.prog 21 #[.slice ao len cap] w fun e w' => e = .returned (.string (ofL (numsL zs))) ∧ Below w.heap.size w w' := by
  have HAT := Lib.hid hat
  clear hat
  have HL := Lib.hid hl
  clear hl
  have HZ := Lib.hid hz
  clear hz
  have hB0 := bnew w
  have hBw : Below w.heap.size w (w.alloc (.cells #[.pointer none, .slice none 0 0] 91)) := (Below.refl _ _).alloc (Nat.le_refl _) _
  have hl0 : (ofL (Pl.num len)).size ≤ 10 := by rw [ofL_size]; exact Pl.num_length_le _ (by omega)
  go_enter Try.func21, Try.ntmps21
  go_wp2_with fail
  refine (mint_int len _ (by omega)).mono ?_; rintro e w1 ⟨rfl, h1⟩
  rw [show (len : Int).toNat = len from by omega]
  have hB1 := bstays hB0 h1
  replace hBw := hBw.trans (h1.mono hBw.size)
  clear hB0 h1
  go_wp2_with fail
  refine (bwrite_any _ _ [] _ _ hB1 (by simp only [List.length_nil]; omega) hBw.size).mono ?_; rintro e w2 ⟨rfl, hB2, h2⟩
  replace hBw := hBw.trans h2
  clear hB1 h2
  go_wp2_with fail
  go_loopw [12] (fun i wr => ∃ k : Nat, k ≤ len ∧ i = .int .i64 (k : Int) ∧ Lib.IsBuilder 91 5 w.heap.size w.heap.size (Lib.byteCells (Pl.num len ++ intsL (zs.take k))) wr ∧ Below w.heap.size w wr) (fun i _ => len - (intOf i).toNat)
  case atStart => exact ⟨0, Nat.zero_le _, rfl, by simpa [intsL, bl_ofL] using hB2, hBw⟩
  case round =>
    clear hB2 hBw
    obtain ⟨k, hk, rfl, hB, hW⟩ := hrel
    by_cases hlt : k < len
    · obtain ⟨bs, off, rfl, hbs, hcell⟩ := SlAt.int HAT.out k (by rw [HL.out]; exact hlt)
      obtain ⟨z, hzz⟩ := nm (zs[k]'(by rw [HL.out]; exact hlt))
      have hz63 : z ≤ 9223372036854775807 := by rw [hzz.out]; exact HZ.out _ (List.getElem_mem _)
      rw [← hzz.out] at hcell
      have hc : wr.cell? ⟨bs, off + k, none⟩ = some (.int .i64 z) := (hW.cell (p := ⟨bs, off + k, none⟩) hbs).trans hcell
      clear hcell
      have hsz : (Pl.num len ++ intsL (zs.take k)).length ≤ 10 + 10 * 1000000 := by
        have h1 := intsL_le (zs.take k) (fun z hz => HZ.out z (List.mem_of_mem_take hz))
        have h2 := Pl.num_length_le len (by omega)
        rw [List.length_append]
        rw [List.length_take] at h1
        omega
      have hzl : (ofL (Pl.num z.toNat)).size ≤ 10 := by rw [ofL_size]; exact Pl.num_length_le _ (by omega)
      go_wp2_with fail
      refine (mint_int z _ hz63).mono ?_; rintro e w3 ⟨rfl, h1⟩
      have hB3 := bstays hB h1
      have hW3 := hW.trans (h1.mono hW.size)
      go_wp2_with fail
      refine (bwrite_any _ _ _ _ _ hB3 (by omega) hW3.size).mono ?_; rintro e w4 ⟨rfl, hB4, h2⟩
      have hW4 := hW3.trans h2
      go_wp2_with fail
      go_roundw
      case rel => exact ⟨k + 1, by omega, by go_num, by rw [intsL_take _ _ (by rw [HL.out]; exact hlt), ← hzz.out, ← List.append_assoc]; exact hB4, hW4⟩
      case measure => simp [intOf]; omega
    · obtain rfl : k = len := by omega
      have e1 : zs.take k = zs := List.take_of_length_le (by rw [HL.out]; exact Nat.le_refl _)
      rw [e1] at hB
      go_wp2_with fail
      refine (Try.Builder_String_any _ _ _ _ hB hW.size).mono ?_; rintro e w3 ⟨rfl, h1⟩
      have hW3 := hW.trans h1
      go_wp2_with fail
      go_ret
      exact ⟨by rw [numsL, HL.out]; rfl, hW3⟩

end Go.Proofs.Ytfpjdmplepepjaa
