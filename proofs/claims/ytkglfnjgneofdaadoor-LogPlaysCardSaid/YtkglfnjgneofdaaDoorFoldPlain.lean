/- Frames as bytes. -/
import Derived.Test.YtkglfnjgneofdaaDoorFold
import Derived.Test.YtkglfnjgneofdaaDoorPlainR
namespace Go.Proofs.YtkglfnjgneofdaaDoor
open Go.RowKit

theorem frame_split (l : List UInt8) : frameL l = Pl.num l.length ++ (l ++ [UInt8.ofNat (Pl.crc (textL l) / 256), UInt8.ofNat (Pl.crc (textL l) % 256)]) := by
  unfold frameL
  rw [show textL l = Pl.num l.length ++ l from rfl, List.append_assoc]
theorem frame_length (l : List UInt8) : (frameL l).length = Pl.nd l.length + l.length + 2 := by
  rw [frame_split, List.length_append, List.length_append, Pl.num_length]; simp; omega
theorem nd_one {n : Nat} (h : n < 128) : Pl.nd n = 1 := by simp [Pl.nd, Pl.ndF, h]
theorem nd_two {n : Nat} (h : ¬ n < 128) (h2 : n < 16384) : Pl.nd n = 2 := by
  have h3 : n / 128 < 128 := by omega
  simp [Pl.nd, Pl.ndF, h, h3]

/-- May these bytes go on to be a length? -/
def begL : List UInt8 → Bool
  | [] => true
  | [c] => decide (128 < c.toNat ∧ (c.toNat - 128) * 128 ≤ 8000)
  | _ => false

/-- What Cut tells. -/
def cutL (s : List UInt8) : List UInt8 × Nat × Int :=
  match Pl.rdNum s with
  | none => ([], 0, if begL s then 12 else 10)
  | some (n, l) => if 8000 < n then ([], 0, if begL s then 12 else 10) else if l.length < n + 2 then ([], 0, 12)
    else if s.take (frameL (l.take n)).length = frameL (l.take n) then (l.take n, (frameL (l.take n)).length, 0) else ([], 0, 10)

theorem cut_back (b rest : List UInt8) (hb : b.length ≤ 8000) : cutL (frameL b ++ rest) = (b, (frameL b).length, 0) := by
  have e : frameL b ++ rest = Pl.num b.length ++ (b ++ ([UInt8.ofNat (Pl.crc (textL b) / 256), UInt8.ofNat (Pl.crc (textL b) % 256)] ++ rest)) := by
    rw [frame_split]; simp [List.append_assoc]
  have h := Pl.rd_num b.length (by omega) (b ++ ([UInt8.ofNat (Pl.crc (textL b) / 256), UInt8.ofNat (Pl.crc (textL b) % 256)] ++ rest))
  rw [cutL, e, h, ← e]
  simp only
  rw [if_neg (by omega), if_neg (by simp), List.take_left' rfl, List.take_left' rfl, if_pos rfl]

theorem rd_short (n k : Nat) (hn : n < 16384) (hk : k < Pl.nd n) : Pl.rdNum ((Pl.num n).take k) = none ∧ (n ≤ 8000 → begL ((Pl.num n).take k) = true) := by
  by_cases h1 : n < 128
  · rw [nd_one h1] at hk
    obtain rfl : k = 0 := by omega
    exact ⟨rfl, fun _ => rfl⟩
  · rw [nd_two h1 hn] at hk
    have e : Pl.num n = [UInt8.ofNat (128 + n / 128 % 128), UInt8.ofNat (n % 128)] := by
      rw [Pl.num, nd_two h1 hn]; simp [Pl.dg]
    rw [e]
    have hk2 : k = 0 ∨ k = 1 := by omega
    rcases hk2 with rfl | rfl
    · exact ⟨rfl, fun _ => rfl⟩
    · have e2 : [UInt8.ofNat (128 + n / 128 % 128), UInt8.ofNat (n % 128)].take 1 = [UInt8.ofNat (128 + n / 128 % 128)] := rfl
      rw [e2]
      have h3 : (UInt8.ofNat (128 + n / 128 % 128)).toNat = 128 + n / 128 % 128 := Pl.mark_toNat _ (by omega)
      have h4 : ¬ UInt8.ofNat (128 + n / 128 % 128) < 128 := by
        rw [UInt8.lt_iff_toNat_lt, h3]
        show ¬ _ < 128
        omega
      refine ⟨?_, fun h8 => ?_⟩
      · rw [Pl.rdNum, Pl.rdG, if_neg, if_neg h4]
        · rfl
        · rintro (h5 | ⟨_, h5⟩)
          · omega
          · have := congrArg UInt8.toNat h5
            rw [h3] at this
            have e : (128 : UInt8).toNat = 128 := rfl
            omega
      · rw [begL, h3]
        exact decide_eq_true (by omega)

theorem cut_short (b : List UInt8) (k : Nat) (hb : b.length ≤ 8000) (hk : k < (frameL b).length) : cutL ((frameL b).take k) = ([], 0, 12) := by
  have hl := frame_length b
  have e := frame_split b
  by_cases h : k < Pl.nd b.length
  · have e2 : (frameL b).take k = (Pl.num b.length).take k := by
      rw [e, List.take_append_of_le_length (by rw [Pl.num_length]; omega)]
    obtain ⟨h1, h2⟩ := rd_short b.length k (by omega) h
    rw [cutL, e2, h1]
    simp only
    rw [h2 hb]; rfl
  · have e2 : (frameL b).take k = Pl.num b.length ++ (b ++ [UInt8.ofNat (Pl.crc (textL b) / 256), UInt8.ofNat (Pl.crc (textL b) % 256)]).take (k - Pl.nd b.length) := by
      rw [e, List.take_append, Pl.num_length, List.take_of_length_le (by rw [Pl.num_length]; omega)]
    rw [cutL, e2, Pl.rd_num b.length (by omega)]
    simp only
    rw [if_neg (by omega), if_pos]
    rw [List.length_take]
    omega

end Go.Proofs.YtkglfnjgneofdaaDoor
