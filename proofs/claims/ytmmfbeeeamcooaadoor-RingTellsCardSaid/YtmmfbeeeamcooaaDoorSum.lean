/- Sums of texts: the program's, by its table, and the document's. -/
import Derived.Test.YtmmfbeeeamcooaaDoorBase
import Derived.Test.YtmmfbeeeamcooaaDoorPlainB
namespace Go.Proofs.YtmmfbeeeamcooaaDoor
open Go.RowKit

theorem bits_xor_u16_nat (a b : Nat) (ha : a < 65536) (hb : b < 65536) : bits .xor .u16 (a : Int) (b : Int) = ((a ^^^ b : Nat) : Int) := by
  have hx : a ^^^ b < 2 ^ 16 := Nat.xor_lt_two_pow (by omega) (by omega)
  have h1 : (BitVec.ofInt 16 (a : Int)).toNat = a := by
    rw [BitVec.ofInt_natCast, BitVec.toNat_ofNat]; exact Nat.mod_eq_of_lt (by omega)
  have h2 : (BitVec.ofInt 16 (b : Int)).toNat = b := by
    rw [BitVec.ofInt_natCast, BitVec.toNat_ofNat]; exact Nat.mod_eq_of_lt (by omega)
  show IntKind.u16.wrap ((BitVec.ofInt 16 (a : Int) ^^^ BitVec.ofInt 16 (b : Int)).toNat : Int) = _
  rw [BitVec.toNat_xor, h1, h2, IntKind.wrap_u16]
  omega

/-- The table of four doublings lies in its variable. -/
structure Tab (w : World) : Prop where
  cells : ∀ i, i < 16 → w.cell? ⟨0, i, none⟩ = some (.int .u16 (Pl.tab i : Nat))
  size : 0 < w.heap.size
theorem Tab.below {W w : World} (h : Tab W) (hb : Below W.heap.size W w) : Tab w :=
  ⟨fun i hi => (hb.cell (p := ⟨0, i, none⟩) h.size).trans (h.cells i hi), Nat.lt_of_lt_of_le h.size hb.size⟩
theorem Tab.alloc {w : World} (h : Tab w) (o : Obj) : Tab (w.alloc o) := h.below ((Below.refl _ _).alloc (Nat.le_refl _) _)

theorem bl_take_succ (s : ByteArray) (k : Nat) (h : k < s.size) : (bl s).take (k + 1) = (bl s).take k ++ [s[k]] := by
  rw [List.take_succ_eq_append_getElem (by rw [bl_length]; exact h)]; rfl

set_option maxRecDepth 100000 in
set_option maxHeartbeats 400000 in
theorem sum_any (s : ByteArray) (w : World) (hs : s.size ≤ 4611686018427387904) (ht : Tab w) :
    Calls Tryd.prog 28 #[.string s] w fun e w' => e = .returned (.int .i64 (Pl.crc (bl s) : Nat)) ∧ w = w' := by
  have HT : Hid (Tab w) := ht
  clear ht
  go_enter Tryd.func28, Tryd.ntmps28
  go_wp2_with fail
  go_loop [3, 7] (fun c i => ∃ k : Nat, k ≤ s.size ∧ i = .int .i64 (k : Int) ∧ c = .int .u16 (Pl.crcF 65535 ((bl s).take k) : Nat)) (fun _ i => s.size - (intOf i).toNat)
  case atStart => exact ⟨0, Nat.zero_le _, rfl, rfl⟩
  case round =>
    obtain ⟨k, hk, rfl, rfl⟩ := hrel
    by_cases hlt : k < s.size
    · have hts := bl_take_succ s k hlt
      obtain ⟨c, hc⟩ : ∃ c : Nat, Hid (c = Pl.crcF 65535 ((bl s).take k)) := ⟨_, rfl⟩
      have hc16 : c < 65536 := by rw [hc.out]; exact Pl.crcF_lt _ _ (by decide)
      have HS : Hid (Pl.crcF 65535 ((bl s).take (k + 1)) = Pl.crcB c s[k]) := by
        rw [hts, hc.out]; exact Pl.crcF_snoc _ _ _
      clear hts
      rw [← hc.out]
      have hb8 : (s[k].toNat : Int) ≤ 255 := by have := s[k].toNat_lt; omega
      obtain ⟨d, hd⟩ := nm (c ^^^ s[k].toNat * 256)
      have hd16 : d < 65536 := by rw [hd.out]; exact Pl.xor_lt16 hc16 (by omega)
      have hx : bits BinOp.xor IntKind.u16 (c : Int) ((s[k].toNat : Int) * 256) = (d : Int) := by
        have := bits_xor_u16_nat c (s[k].toNat * 256) hc16 (by omega)
        rw [hd.out, ← this]; simp
      go_wp2_with fail
      clear hx
      go_loop [3, 17] (fun c j => ∃ q : Nat, q ≤ 2 ∧ j = .int .i64 (q : Int) ∧ c = .int .u16 (Pl.nibs q d : Nat)) (fun _ j => 2 - (intOf j).toNat)
      case atStart => exact ⟨0, by omega, rfl, rfl⟩
      case round =>
        obtain ⟨q, hq, rfl, rfl⟩ := hrel
        obtain ⟨x, hx⟩ : ∃ x : Nat, Hid (x = Pl.nibs q d) := ⟨_, rfl⟩
        have hx16 : x < 65536 := by rw [hx.out]; exact Pl.nibs_lt _ _ hd16
        rw [← hx.out]
        by_cases hq2 : q < 2
        · have hcell := HT.out.cells (x / 4096) (by omega)
          have hxx : bits BinOp.xor IntKind.u16 (IntKind.u16.wrap ((x : Int) * 16)) (Pl.tab (x / 4096) : Nat) = (Pl.nib x : Nat) := by
            have := bits_xor_u16_nat (x * 16 % 65536) (Pl.tab (x / 4096)) (by omega) (Pl.tab_lt _)
            rw [Pl.nib, ← this, IntKind.wrap_u16]; congr 1
          go_wp2
          go_round
          case rel => exact ⟨q + 1, by omega, by go_num, by rw [Pl.nibs, ← hx.out]⟩
          case measure => simp [intOf]; omega
        · obtain rfl : q = 2 := by omega
          go_wp2
          go_round
          case rel => exact ⟨k + 1, by omega, by go_num, by rw [HS.out, hx.out, hd.out, Pl.nibs_two _ _ hc16]⟩
          case measure => simp [intOf]; omega
    · obtain rfl : k = s.size := by omega
      have e : (bl s).take s.size = bl s := List.take_of_length_le (by rw [bl_length]; exact Nat.le_refl _)
      rw [e]
      have h16 : Pl.crcF 65535 (bl s) < 65536 := Pl.crc_lt (bl s)
      go_wp2
      go_ret
      exact ⟨rfl, rfl⟩

theorem bits_xor_i64_nat (a b : Nat) (ha : a < 65536) (hb : b < 65536) : bits .xor .i64 (a : Int) (b : Int) = ((a ^^^ b : Nat) : Int) := by
  have hx : a ^^^ b < 2 ^ 16 := Nat.xor_lt_two_pow (by omega) (by omega)
  have h1 : (BitVec.ofInt 64 (a : Int)).toNat = a := by
    rw [BitVec.ofInt_natCast, BitVec.toNat_ofNat]; exact Nat.mod_eq_of_lt (by omega)
  have h2 : (BitVec.ofInt 64 (b : Int)).toNat = b := by
    rw [BitVec.ofInt_natCast, BitVec.toNat_ofNat]; exact Nat.mod_eq_of_lt (by omega)
  show IntKind.i64.wrap ((BitVec.ofInt 64 (a : Int) ^^^ BitVec.ofInt 64 (b : Int)).toNat : Int) = _
  rw [BitVec.toNat_xor, h1, h2, IntKind.wrap_i64]
  omega

set_option maxRecDepth 100000 in
set_option maxHeartbeats 400000 in
theorem refsum_any (s : ByteArray) (w : World) (hs : s.size ≤ 4611686018427387904) :
    Calls Tryd.prog 34 #[.string s] w fun e w' => e = .returned (.int .i64 (Pl.crc (bl s) : Nat)) ∧ w = w' := by
  go_enter Tryd.func34, Tryd.ntmps34
  go_wp2_with fail
  go_loop [3, 4] (fun c i => ∃ k : Nat, k ≤ s.size ∧ i = .int .i64 (k : Int) ∧ c = .int .i64 (Pl.crcF 65535 ((bl s).take k) : Nat)) (fun _ i => s.size - (intOf i).toNat)
  case atStart => exact ⟨0, Nat.zero_le _, rfl, rfl⟩
  case round =>
    obtain ⟨k, hk, rfl, rfl⟩ := hrel
    by_cases hlt : k < s.size
    · have hts := bl_take_succ s k hlt
      obtain ⟨c, hc⟩ : ∃ c : Nat, Hid (c = Pl.crcF 65535 ((bl s).take k)) := ⟨_, rfl⟩
      have hc16 : c < 65536 := by rw [hc.out]; exact Pl.crcF_lt _ _ (by decide)
      have HS : Hid (Pl.crcF 65535 ((bl s).take (k + 1)) = Pl.crcB c s[k]) := by
        rw [hts, hc.out]; exact Pl.crcF_snoc _ _ _
      clear hts
      rw [← hc.out]
      have hb8 : (s[k].toNat : Int) ≤ 255 := by have := s[k].toNat_lt; omega
      obtain ⟨d, hd⟩ := nm (c ^^^ s[k].toNat * 256)
      have hd16 : d < 65536 := by rw [hd.out]; exact Pl.xor_lt16 hc16 (by omega)
      have hx : bits BinOp.xor IntKind.i64 (c : Int) ((s[k].toNat : Int) * 256) = (d : Int) := by
        have := bits_xor_i64_nat c (s[k].toNat * 256) hc16 (by omega)
        rw [hd.out, ← this]; simp
      go_wp2_with fail
      clear hx
      go_loop [3, 5] (fun c j => ∃ q : Nat, q ≤ 8 ∧ j = .int .i64 (q : Int) ∧ c = .int .i64 (Pl.dbls q d : Nat)) (fun _ j => 8 - (intOf j).toNat)
      case atStart => exact ⟨0, by omega, rfl, rfl⟩
      case round =>
        obtain ⟨q, hq, rfl, rfl⟩ := hrel
        obtain ⟨x, hx⟩ := nm (Pl.dbls q d)
        have hx16 : x < 65536 := by rw [hx.out]; exact Pl.dbls_lt _ _ hd16
        rw [← hx.out]
        by_cases hq2 : q < 8
        · by_cases h15 : 32768 ≤ x
          · have hxx : bits BinOp.xor IntKind.i64 ((x : Int) * 2 % 65536) 4129 = (Pl.dbl x : Nat) := by
              have := bits_xor_i64_nat (x * 2 % 65536) 4129 (by omega) (by omega)
              rw [Pl.dbl, if_pos h15, ← this]; simp
            have hd15 : decide ((32768 : Int) ≤ (x : Int)) = true := by simp; omega
            go_wp2
            go_round
            case rel => exact ⟨q + 1, by omega, by go_num, by rw [Pl.dbls_succ, ← hx.out]⟩
            case measure => simp [intOf]; omega
          · have hxx : ((x : Int) * 2 % 65536) = (Pl.dbl x : Nat) := by rw [Pl.dbl, if_neg h15]; omega
            have hd15 : decide ((32768 : Int) ≤ (x : Int)) = false := by simp; omega
            go_wp2
            go_round
            case rel => exact ⟨q + 1, by omega, by go_num, by rw [Pl.dbls_succ, ← hx.out, hxx]⟩
            case measure => simp [intOf]; omega
        · obtain rfl : q = 8 := by omega
          go_wp2
          go_round
          case rel => exact ⟨k + 1, by omega, by go_num, by rw [HS.out, hx.out, hd.out]; rfl⟩
          case measure => simp [intOf]; omega
    · obtain rfl : k = s.size := by omega
      have e : (bl s).take s.size = bl s := List.take_of_length_le (by rw [bl_length]; exact Nat.le_refl _)
      rw [e]
      go_wp2
      go_ret
      exact ⟨rfl, rfl⟩

end Go.Proofs.YtmmfbeeeamcooaaDoor
