/- The walks of layer mint's reader. -/
import Derived.Test.YtfpjdmplepepjaaMint
import Derived.Test.YtfpjdmplepepjaaBlk
import Derived.Test.YtfpjdmplepepjaaBytes
import Derived.WalkMore
namespace Go.Proofs.Ytfpjdmplepepjaa
open Go.RowKit

/-- A reader: what is left; is it torn. -/
structure Rd where
  left : ByteArray
  torn : Bool
def Rd.cells (r : Rd) : Array Value := #[.string r.left, .bool r.torn]
/-- Block b holds the program's reader r. -/
def IsRd (w : World) (b : Nat) (r : Rd) : Prop := Blk w b r.cells 108
theorem IsRd.setLeft {w : World} {b : Nat} {r : Rd} (h : IsRd w b r) (x : ByteArray) : IsRd (w.setCell ⟨b, 0, none⟩ (.string x)) b { r with left := x } := Blk.set h 0 (.string x)
theorem IsRd.setTorn {w : World} {b : Nat} {r : Rd} (h : IsRd w b r) (x : Bool) : IsRd (w.setCell ⟨b, 1, none⟩ (.bool x)) b { r with torn := x } := Blk.set h 1 (.bool x)

/-- A number is read. -/
def Rd.num (r : Rd) : Rd × Nat :=
  if r.torn then (r, 0) else match Pl.rdNum (bl r.left) with
    | some (n, l) => (⟨ofL l, false⟩, n)
    | none => (⟨r.left, true⟩, 0)
def Rd.int (r : Rd) (most : Int) : Rd × Nat := if most < 0 ∨ most < r.num.2 then (⟨r.num.1.left, true⟩, 0) else r.num
def Rd.text (r : Rd) (most : Int) : Rd × ByteArray :=
  if (r.int most).1.torn = true ∨ (r.int most).1.left.size < (r.int most).2 then (⟨(r.int most).1.left, true⟩, ⟨#[]⟩)
  else (⟨(r.int most).1.left.extract (r.int most).2 (r.int most).1.left.size, false⟩, (r.int most).1.left.extract 0 (r.int most).2)

set_option maxRecDepth 100000 in
set_option maxHeartbeats 400000 in
theorem read_any (s : ByteArray) (w : World) :
    Calls Try.prog 36 #[.string s] w fun e w' => e = .returned (.pointer (some ⟨w.heap.size, 0, none⟩)) ∧ w' = w.alloc (.cells (Rd.cells ⟨s, false⟩) 108) := by
  go_enter Try.func36, Try.ntmps36
  go_wp2
  go_ret
  exact ⟨rfl, rfl⟩

set_option maxRecDepth 100000 in
set_option maxHeartbeats 400000 in
theorem fine_any (b : Nat) (r : Rd) (w : World) (hr : IsRd w b r) :
    Calls Try.prog 78 #[.pointer (some ⟨b, 0, none⟩)] w fun e w' => e = .returned (.bool (!r.torn)) ∧ w = w' := by
  have c1 : w.cell? ⟨b, 1, none⟩ = some (.bool r.torn) := hr.cell 1
  go_enter Try.func78, Try.ntmps78
  go_wp2
  go_ret
  exact ⟨rfl, rfl⟩

theorem fine_is (t f : Bool) (hf : f = !t) (b : Nat) (s : ByteArray) (w : World) (hr : IsRd w b ⟨s, t⟩) :
    Calls Try.prog 78 #[.pointer (some ⟨b, 0, none⟩)] w fun e w' => e = .returned (.bool f) ∧ w = w' := by subst hf; exact fine_any b _ w hr

set_option maxRecDepth 100000 in
set_option maxHeartbeats 400000 in
theorem tears_any (b : Nat) (r : Rd) (w : World) (hr : IsRd w b r) :
    Calls Try.prog 79 #[.pointer (some ⟨b, 0, none⟩)] w fun e w' => e = .returned (.tuple #[]) ∧ IsRd w' b ⟨r.left, true⟩ ∧ Kept b w w' := by
  have c1 : w.cell? ⟨b, 1, none⟩ = some (.bool r.torn) := hr.cell 1
  have f1 : w.frozen? ⟨b, 1, none⟩ = false := hr.free 1
  go_enter Try.func79, Try.ntmps79
  go_wp2
  go_end0
  exact ⟨rfl, hr.setTorn true, (Kept.refl _ _).set _ _⟩

theorem mul64_small (x : Nat) (w : World) (hx : x < 144115188075855872) :
    Calls Try.prog 114 #[.int .u64 x, .int .u64 128] w fun e w' => e = .returned (.tuple #[.int .u64 0, .int .u64 ((x * 128 : Nat) : Int)]) ∧ w = w' := by
  refine (mul64_any x 128 w (by omega) (by decide)).mono ?_
  rintro e w' ⟨rfl, rfl⟩
  refine ⟨?_, rfl⟩
  rw [show x * 128 / 18446744073709551616 = 0 from by omega, show x * 128 % 18446744073709551616 = x * 128 from by omega]
  rfl
theorem mul64_big (x : Nat) (w : World) (hx : 144115188075855872 ≤ x) (hx2 : x < 18446744073709551616) :
    Calls Try.prog 114 #[.int .u64 x, .int .u64 128] w fun e w' => ∃ h l : Nat, e = .returned (.tuple #[.int .u64 (h : Int), .int .u64 (l : Int)]) ∧ 0 < h ∧ h < 18446744073709551616 ∧ l < 18446744073709551616 ∧ w = w' := by
  refine (mul64_any x 128 w (by omega) (by decide)).mono ?_
  rintro e w' ⟨rfl, rfl⟩
  exact ⟨_, _, rfl, by omega, by omega, by omega, rfl⟩

theorem or_digit (x c : Nat) (hx : x < 144115188075855872) (hc : c < 128) : bits BinOp.or IntKind.u64 ((x * 128 : Nat) : Int) (c : Int) = ((x * 128 + c : Nat) : Int) := by
  have h1 : (BitVec.ofInt 64 ((x * 128 : Nat) : Int)).toNat = x * 128 := by
    rw [BitVec.ofInt_natCast, BitVec.toNat_ofNat]; exact Nat.mod_eq_of_lt (by omega)
  have h2 : (BitVec.ofInt 64 (c : Int)).toNat = c := by
    rw [BitVec.ofInt_natCast, BitVec.toNat_ofNat]; exact Nat.mod_eq_of_lt (by omega)
  have h3 : x * 128 ||| c = x * 128 + c := by
    have := Nat.two_pow_add_eq_or_of_lt (i := 7) (b := c) (by omega) x
    rw [show 2 ^ 7 * x = x * 128 from by omega] at this
    exact this.symm
  show IntKind.u64.wrap ((BitVec.ofInt 64 ((x * 128 : Nat) : Int) ||| BitVec.ofInt 64 (c : Int)).toNat : Int) = _
  rw [BitVec.toNat_or, h1, h2, h3]
  rw [IntKind.wrap_u64]
  omega

theorem and_digit : ∀ x : Fin 256, bits BinOp.and IntKind.u8 (x.val : Int) 127 = (x.val % 128 : Nat) := by decide +kernel

theorem rdNum_step (s : ByteArray) (k m : Nat) (hk : k < 10) (h : k < s.size) :
    Pl.rdG (10 - k) (k == 0) m ((bl s).drop k) = if 144115188075855872 ≤ m ∨ (k = 0 ∧ s[k].toNat = 128) then none else
      if s[k].toNat < 128 then some (m * 128 + s[k].toNat % 128, (bl s).drop (k + 1)) else Pl.rdG (10 - (k + 1)) (k + 1 == 0) (m * 128 + s[k].toNat % 128) ((bl s).drop (k + 1)) := by
  have e : (bl s).drop k = s[k] :: (bl s).drop (k + 1) := by
    rw [List.drop_eq_getElem_cons (by rw [bl_length]; exact h)]; rfl
  rw [e, show 10 - k = (9 - k) + 1 from by omega, Pl.rdG, show 10 - (k + 1) = 9 - k from by omega]
  have h1 : (s[k] = 128) = (s[k].toNat = 128) := by
    apply propext
    constructor
    · intro h; rw [h]; rfl
    · intro h; exact UInt8.toNat_inj.1 (h.trans rfl)
  have h2 : (s[k] < 128) = (s[k].toNat < 128) := by
    rw [UInt8.lt_iff_toNat_lt]; rfl
  simp only [h1, h2, beq_iff_eq]
  rfl
theorem rdNum_end (s : ByteArray) (k m : Nat) (h : ¬ (k < 10 ∧ k < s.size)) : Pl.rdG (10 - k) (k == 0) m ((bl s).drop k) = none := by
  by_cases hk : k < 10
  · rw [List.drop_of_length_le (by rw [bl_length]; omega), show 10 - k = (9 - k) + 1 from by omega]; rfl
  · rw [show 10 - k = 0 from by omega]; rfl

set_option maxRecDepth 100000 in
set_option maxHeartbeats 1000000 in
theorem rnum_any (b : Nat) (r : Rd) (w : World) (hr : IsRd w b r) (hs : r.left.size ≤ 4611686018427387904) :
    Calls Try.prog 104 #[.pointer (some ⟨b, 0, none⟩)] w fun e w' => e = .returned (.int .u64 (r.num.2 : Nat)) ∧ IsRd w' b r.num.1 ∧ Kept b w w' := by
  obtain ⟨s, torn⟩ := r
  simp only at hs
  cases torn
  rotate_left
  · have e0 : (Rd.mk s true).num = (⟨s, true⟩, 0) := rfl
    rw [e0]; clear e0
    go_enter Try.func104, Try.ntmps104
    go_wp2_with fail
    go_step3
    go_wp2_with (go_at_call 78; refine (fine_is true false rfl b s w hr).mono ?_; rintro e w1 ⟨rfl, rfl⟩)
    (first | go_ret | (rw [Exit.noGoto_ret]; go_ret))
    exact ⟨rfl, hr, Kept.refl _ _⟩
  have c0 : w.cell? ⟨b, 0, none⟩ = some (.string s) := hr.cell 0
  have f0 : w.frozen? ⟨b, 0, none⟩ = false := hr.free 0
  have key : ∀ q, Pl.rdNum (bl s) = q → (Rd.mk s false).num = match q with | some (n, l) => (⟨ofL l, false⟩, n) | none => (⟨s, true⟩, 0) := by rintro q rfl; rfl
  obtain ⟨Q, hQ⟩ := nm ((Rd.mk s false).num)
  rw [← hQ.out]
  have KEY := Lib.hid key
  clear key
  go_enter Try.func104, Try.ntmps104
  go_wp2_with fail
  go_step3
  go_wp2_with (go_at_call 78; refine (fine_is false true rfl b s w hr).mono ?_; rintro e w1 ⟨rfl, rfl⟩)
  go_step3
  go_wp2_with fail
  go_loop [3, 17] (fun v i => ∃ k m : Nat, k ≤ 10 ∧ k ≤ s.size ∧ i = .int .i64 (k : Int) ∧ v = .int .u64 (m : Int) ∧ m < 18446744073709551616 ∧ Hid (Pl.rdNum (bl s) = Pl.rdG (10 - k) (k == 0) m ((bl s).drop k))) (fun _ i => 10 - (intOf i).toNat)
  case atStart => exact ⟨0, 0, by omega, by omega, rfl, rfl, by omega, rfl⟩
  case round =>
    obtain ⟨k, m, hk1, hk2, rfl, rfl, hm, hrel⟩ := hrel
    by_cases hlt : k < 10 ∧ k < s.size
    rotate_left
    · have HE := Lib.hid (KEY.out _ (hrel.out.trans (rdNum_end s k m hlt)))
      go_wp2_with fail
      all_goals
        refine (tears_any b _ _ hr).mono ?_; rintro e w2 ⟨rfl, h1, h2⟩
        go_wp2_with fail
        (first | go_ret | (rw [Exit.noGoto_ret]; go_ret))
        rw [hQ.out, HE.out]
        exact ⟨rfl, h1, h2⟩
    obtain ⟨hlt1, hlt2⟩ := hlt
    have hst := rdNum_step s k m hlt1 hlt2
    have h256 := s[k].toNat_lt
    by_cases hbad : 144115188075855872 ≤ m ∨ (k = 0 ∧ s[k].toNat = 128)
    · rw [if_pos hbad] at hst
      have HE := Lib.hid (KEY.out _ (hrel.out.trans hst))
      clear hst
      by_cases hm57 : m < 144115188075855872
      · obtain ⟨hk0, hc⟩ : k = 0 ∧ s[k].toNat = 128 := by omega
        subst hk0
        have hcb : ((s[0].toNat : Int) == 128) = true := by simp [hc]
        go_wp2_with fail
        refine (mul64_small m _ hm57).mono ?_; rintro e w2 ⟨rfl, rfl⟩
        go_wp2_with fail
        refine (tears_any b _ _ hr).mono ?_; rintro e w2 ⟨rfl, h1, h2⟩
        go_wp2_with fail
        (first | go_ret | (rw [Exit.noGoto_ret]; go_ret))
        rw [hQ.out, HE.out]
        exact ⟨rfl, h1, h2⟩
      · go_wp2_with fail
        refine (mul64_big m _ (by omega) hm).mono ?_; rintro e w2 ⟨h, l, rfl, hh1, hh2, hl2, rfl⟩
        go_wp2_with fail
        refine (tears_any b _ _ hr).mono ?_; rintro e w2 ⟨rfl, h1, h2⟩
        go_wp2_with fail
        (first | go_ret | (rw [Exit.noGoto_ret]; go_ret))
        rw [hQ.out, HE.out]
        exact ⟨rfl, h1, h2⟩
    · rw [if_neg hbad] at hst
      have hm57 : m < 144115188075855872 := by omega
      obtain ⟨d, hd⟩ := nm (s[k].toNat % 128)
      have hd7 : d < 128 := by rw [hd.out]; omega
      have ho := or_digit m d hm57 hd7
      have HO : Hid (bits BinOp.or IntKind.u64 ((m : Int) * 128) (IntKind.u64.wrap (bits BinOp.and IntKind.u8 (s[k].toNat : Int) 127)) = ((m * 128 + d : Nat) : Int)) := by
        show _ = _
        rw [and_digit ⟨s[k].toNat, h256⟩, ← ho, hd.out, IntKind.wrap_u64]
        congr 1
        simp only
        omega
      clear ho
      rw [← hd.out] at hst
      by_cases hc : s[k].toNat < 128
      · rw [if_pos hc] at hst
        have HE := Lib.hid (KEY.out _ (hrel.out.trans hst))
        clear hst
        have HX : Hid (s.extract (k + 1) s.size = ofL ((bl s).drop (k + 1))) := by
          show _ = _
          refine bl_inj ?_
          rw [bl_extract, bl_ofL, List.take_of_length_le (by rw [List.length_drop, bl_length]; exact Nat.le_refl _)]
        have hcb : ((s[k].toNat : Int) == 128) = false := by simp; omega
        clear hbad
        by_cases hk0 : k = 0
        · subst hk0
          go_wp2_with fail
          refine (mul64_small m _ hm57).mono ?_; rintro e w2 ⟨rfl, rfl⟩
          go_wp2_with fail
          first | go_ret | (rw [Exit.noGoto_ret]; go_ret)
          rw [hQ.out, HE.out]
          simp only
          rw [← HX.out]
          exact ⟨congrArg (fun x => Ending.returned (Value.int .u64 x)) HO.out, hr.setLeft _, (Kept.refl _ _).set _ _⟩
        · go_wp2_with fail
          refine (mul64_small m _ hm57).mono ?_; rintro e w2 ⟨rfl, rfl⟩
          go_wp2_with fail
          first | go_ret | (rw [Exit.noGoto_ret]; go_ret)
          rw [hQ.out, HE.out]
          simp only
          rw [← HX.out]
          exact ⟨congrArg (fun x => Ending.returned (Value.int .u64 x)) HO.out, hr.setLeft _, (Kept.refl _ _).set _ _⟩
      · rw [if_neg hc] at hst
        have HE := Lib.hid (hrel.out.trans hst)
        clear hst
        by_cases hk0 : k = 0
        · subst hk0
          have hcb : ((s[0].toNat : Int) == 128) = false := by simp; omega
          clear hbad
          go_wp2_with fail
          refine (mul64_small m _ hm57).mono ?_; rintro e w2 ⟨rfl, rfl⟩
          go_wp2_with fail
          go_round
          case rel => exact ⟨0 + 1, m * 128 + d, by omega, by omega, by go_num, congrArg _ HO.out, by omega, HE⟩
          case measure => simp [intOf]
        · clear hbad
          go_wp2_with fail
          refine (mul64_small m _ hm57).mono ?_; rintro e w2 ⟨rfl, rfl⟩
          go_wp2_with fail
          go_round
          case rel => exact ⟨k + 1, m * 128 + d, by omega, by omega, by go_num, congrArg _ HO.out, by omega, HE⟩
          case measure => simp [intOf]; omega

end Go.Proofs.Ytfpjdmplepepjaa
