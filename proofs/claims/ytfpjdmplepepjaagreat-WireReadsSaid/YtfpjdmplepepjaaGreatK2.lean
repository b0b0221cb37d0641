/- The walks of layer mint's reader. (and what stands on it: 15 texts in one) -/
import Derived.WalkMore
import Derived.Deep.AppendLies
import Derived.Deep.RegionHeld3
import Derived.Shelf.RegionOpenPlain
import Derived.OwnWalk
import Derived.Deep.RegionLaw
import Derived.Laws.AppendOwnNone
import Derived.Outline
import Derived.Deep.DeepCutAuto
import Derived.BigQuiet
import Derived.Deep.QuietTactic
import Derived.Test.YtfpjdmplepepjaaGreatK1
/-! Reader: The walks of layer mint's reader. -/
namespace Go.Proofs.YtfpjdmplepepjaaGreat
open Go.RowKit

/-- A reader: what is left; is it torn. -/
structure Rd where
  left : ByteArray
  torn : Bool
def Rd.cells (r : Rd) : Array Value := #[.string r.left, .bool r.torn]
/-- Block b holds the program's reader r. -/
def IsRd (w : World) (b : Nat) (r : Rd) : Prop := Blk w b r.cells 79
theorem IsRd.setLeft {w : World} {b : Nat} {r : Rd} (h : IsRd w b r) (x : ByteArray) : IsRd (w.setCell ⟨b, 0, none⟩ (.string x)) b { r with left := x } := Blk.set h 0 (.string x)
theorem IsRd.setTorn {w : World} {b : Nat} {r : Rd} (h : IsRd w b r) (x : Bool) : IsRd (w.setCell ⟨b, 1, none⟩ (.bool x)) b { r with torn := x } := Blk.set h 1 (.bool x)

/-- A number is read. -/
def Rd.num (r : Rd) : Rd × Nat :=
  if r.torn then (r, 0) else match Pl.rdNum (bl r.left) with
    | some (n, l) => (⟨ofL l, false⟩, n)
    | none => (⟨r.left, true⟩, 0)
def Rd.int (r : Rd) (most : Int) : Rd × Nat := if most < 0 ∨ most < r.num.2 then (⟨r.num.1.left, true⟩, 0) else r.num
def Rd.text (r : Rd) (most : Int) : Rd × ByteArray :=
  if (r.int most).1.torn = true ∨ (r.int most).1.left.size < (r.int most).2 then (⟨(r.int most).1.left, true⟩, ⟨#[]⟩)
  else (⟨(r.int most).1.left.extract (r.int most).2 (r.int most).1.left.size, false⟩, (r.int most).1.left.extract 0 (r.int most).2)

set_option maxRecDepth 100000 in
set_option maxHeartbeats 400000 in
theorem read_any (s : ByteArray) (w : World) :
    Calls Tryz.prog 12 #[.string s] w fun e w' => e = .returned (.pointer (some ⟨w.heap.size, 0, none⟩)) ∧ w' = w.alloc (.cells (Rd.cells ⟨s, false⟩) 79) := by
  go_enter Tryz.func12, Tryz.ntmps12
  go_wp2
  go_ret
  exact ⟨rfl, rfl⟩

set_option maxRecDepth 100000 in
set_option maxHeartbeats 400000 in
theorem fine_any (b : Nat) (r : Rd) (w : World) (hr : IsRd w b r) :
    Calls Tryz.prog 45 #[.pointer (some ⟨b, 0, none⟩)] w fun e w' => e = .returned (.bool (!r.torn)) ∧ w = w' := by
  have c1 : w.cell? ⟨b, 1, none⟩ = some (.bool r.torn) := hr.cell 1
  go_enter Tryz.func45, Tryz.ntmps45
  go_wp2
  go_ret
  exact ⟨rfl, rfl⟩

theorem fine_is (t f : Bool) (hf : f = !t) (b : Nat) (s : ByteArray) (w : World) (hr : IsRd w b ⟨s, t⟩) :
    Calls Tryz.prog 45 #[.pointer (some ⟨b, 0, none⟩)] w fun e w' => e = .returned (.bool f) ∧ w = w' := by subst hf; exact fine_any b _ w hr

set_option maxRecDepth 100000 in
set_option maxHeartbeats 400000 in
theorem tears_any (b : Nat) (r : Rd) (w : World) (hr : IsRd w b r) :
    Calls Tryz.prog 46 #[.pointer (some ⟨b, 0, none⟩)] w fun e w' => e = .returned (.tuple #[]) ∧ IsRd w' b ⟨r.left, true⟩ ∧ Kept b w w' := by
  have c1 : w.cell? ⟨b, 1, none⟩ = some (.bool r.torn) := hr.cell 1
  have f1 : w.frozen? ⟨b, 1, none⟩ = false := hr.free 1
  go_enter Tryz.func46, Tryz.ntmps46
  go_wp2
  go_end0
  exact ⟨rfl, hr.setTorn true, (Kept.refl _ _).set _ _⟩

theorem mul64_small (x : Nat) (w : World) (hx : x < 144115188075855872) :
    Calls Tryz.prog 96 #[.int .u64 x, .int .u64 128] w fun e w' => e = .returned (.tuple #[.int .u64 0, .int .u64 ((x * 128 : Nat) : Int)]) ∧ w = w' := by
  refine (mul64_any x 128 w (by omega) (by decide)).mono ?_
  rintro e w' ⟨rfl, rfl⟩
  refine ⟨?_, rfl⟩
  rw [show x * 128 / 18446744073709551616 = 0 from by omega, show x * 128 % 18446744073709551616 = x * 128 from by omega]
  rfl
theorem mul64_big (x : Nat) (w : World) (hx : 144115188075855872 ≤ x) (hx2 : x < 18446744073709551616) :
    Calls Tryz.prog 96 #[.int .u64 x, .int .u64 128] w fun e w' => ∃ h l : Nat, e = .returned (.tuple #[.int .u64 (h : Int), .int .u64 (l : Int)]) ∧ 0 < h ∧ h < 18446744073709551616 ∧ l < 18446744073709551616 ∧ w = w' := by
  refine (mul64_any x 128 w (by omega) (by decide)).mono ?_
  rintro e w' ⟨rfl, rfl⟩
  exact ⟨_, _, rfl, by omega, by omega, by omega, rfl⟩

theorem or_digit (x c : Nat) (hx : x < 144115188075855872) (hc : c < 128) : bits BinOp.or IntKind.u64 ((x * 128 : Nat) : Int) (c : Int) = ((x * 128 + c : Nat) : Int) := by
  have h1 : (BitVec.ofInt 64 ((x * 128 : Nat) : Int)).toNat = x * 128 := by
    rw [BitVec.ofInt_natCast, BitVec.toNat_ofNat]; exact Nat.mod_eq_of_lt (by omega)
  have h2 : (BitVec.ofInt 64 (c : Int)).toNat = c := by
    rw [BitVec.ofInt_natCast, BitVec.toNat_ofNat]; exact Nat.mod_eq_of_lt (by omega)
  have h3 : x * 128 ||| c = x * 128 + c := by
    have := Nat.two_pow_add_eq_or_of_lt (i := 7) (b := c) (by omega) x
    rw [show 2 ^ 7 * x = x * 128 from by omega] at this
    exact this.symm
  show IntKind.u64.wrap ((BitVec.ofInt 64 ((x * 128 : Nat) : Int) ||| BitVec.ofInt 64 (c : Int)).toNat : Int) = _
  rw [BitVec.toNat_or, h1, h2, h3]
  rw [IntKind.wrap_u64]
  omega

theorem and_digit : ∀ x : Fin 256, bits BinOp.and IntKind.u8 (x.val : Int) 127 = (x.val % 128 : Nat) := by decide +kernel

theorem rdNum_step (s : ByteArray) (k m : Nat) (hk : k < 10) (h : k < s.size) :
    Pl.rdG (10 - k) (k == 0) m ((bl s).drop k) = if 144115188075855872 ≤ m ∨ (k = 0 ∧ s[k].toNat = 128) then none else
      if s[k].toNat < 128 then some (m * 128 + s[k].toNat % 128, (bl s).drop (k + 1)) else Pl.rdG (10 - (k + 1)) (k + 1 == 0) (m * 128 + s[k].toNat % 128) ((bl s).drop (k + 1)) := by
  have e : (bl s).drop k = s[k] :: (bl s).drop (k + 1) := by
    rw [List.drop_eq_getElem_cons (by rw [bl_length]; exact h)]; rfl
  rw [e, show 10 - k = (9 - k) + 1 from by omega, Pl.rdG, show 10 - (k + 1) = 9 - k from by omega]
  have h1 : (s[k] = 128) = (s[k].toNat = 128) := by
    apply propext
    constructor
    · intro h; rw [h]; rfl
    · intro h; exact UInt8.toNat_inj.1 (h.trans rfl)
  have h2 : (s[k] < 128) = (s[k].toNat < 128) := by
    rw [UInt8.lt_iff_toNat_lt]; rfl
  simp only [h1, h2, beq_iff_eq]
  rfl
theorem rdNum_end (s : ByteArray) (k m : Nat) (h : ¬ (k < 10 ∧ k < s.size)) : Pl.rdG (10 - k) (k == 0) m ((bl s).drop k) = none := by
  by_cases hk : k < 10
  · rw [List.drop_of_length_le (by rw [bl_length]; omega), show 10 - k = (9 - k) + 1 from by omega]; rfl
  · rw [show 10 - k = 0 from by omega]; rfl

set_option maxRecDepth 100000 in
set_option maxHeartbeats 1000000 in
theorem rnum_any (b : Nat) (r : Rd) (w : World) (hr : IsRd w b r) (hs : r.left.size ≤ 4611686018427387904) :
    Calls Tryz.prog 75 #[.pointer (some ⟨b, 0, none⟩)] w fun e w' => e = .returned (.int .u64 (r.num.2 : Nat)) ∧ IsRd w' b r.num.1 ∧ Kept b w w' := by
  obtain ⟨s, torn⟩ := r
  simp only at hs
  cases torn
  rotate_left
  · have e0 : (Rd.mk s true).num = (⟨s, true⟩, 0) := rfl
    rw [e0]; clear e0
    go_enter Tryz.func75, Tryz.ntmps75
    go_wp2_with fail
    go_step3
    go_wp2_with (go_at_call 45; refine (fine_is true false rfl b s w hr).mono ?_; rintro e w1 ⟨rfl, rfl⟩)
    (first | go_ret | (rw [Exit.noGoto_ret]; go_ret))
    exact ⟨rfl, hr, Kept.refl _ _⟩
  have c0 : w.cell? ⟨b, 0, none⟩ = some (.string s) := hr.cell 0
  have f0 : w.frozen? ⟨b, 0, none⟩ = false := hr.free 0
  have key : ∀ q, Pl.rdNum (bl s) = q → (Rd.mk s false).num = match q with | some (n, l) => (⟨ofL l, false⟩, n) | none => (⟨s, true⟩, 0) := by rintro q rfl; rfl
  obtain ⟨Q, hQ⟩ := nm ((Rd.mk s false).num)
  rw [← hQ.out]
  have KEY := Lib.hid key
  clear key
  go_enter Tryz.func75, Tryz.ntmps75
  go_wp2_with fail
  go_step3
  go_wp2_with (go_at_call 45; refine (fine_is false true rfl b s w hr).mono ?_; rintro e w1 ⟨rfl, rfl⟩)
  go_step3
  go_wp2_with fail
  go_loop [3, 17] (fun v i => ∃ k m : Nat, k ≤ 10 ∧ k ≤ s.size ∧ i = .int .i64 (k : Int) ∧ v = .int .u64 (m : Int) ∧ m < 18446744073709551616 ∧ Hid (Pl.rdNum (bl s) = Pl.rdG (10 - k) (k == 0) m ((bl s).drop k))) (fun _ i => 10 - (intOf i).toNat)
  case atStart => exact ⟨0, 0, by omega, by omega, rfl, rfl, by omega, rfl⟩
  case round =>
    obtain ⟨k, m, hk1, hk2, rfl, rfl, hm, hrel⟩ := hrel
    by_cases hlt : k < 10 ∧ k < s.size
    rotate_left
    · have HE := Lib.hid (KEY.out _ (hrel.out.trans (rdNum_end s k m hlt)))
      go_wp2_with fail
      all_goals
        refine (tears_any b _ _ hr).mono ?_; rintro e w2 ⟨rfl, h1, h2⟩
        go_wp2_with fail
        (first | go_ret | (rw [Exit.noGoto_ret]; go_ret))
        rw [hQ.out, HE.out]
        exact ⟨rfl, h1, h2⟩
    obtain ⟨hlt1, hlt2⟩ := hlt
    have hst := rdNum_step s k m hlt1 hlt2
    have h256 := s[k].toNat_lt
    by_cases hbad : 144115188075855872 ≤ m ∨ (k = 0 ∧ s[k].toNat = 128)
    · rw [if_pos hbad] at hst
      have HE := Lib.hid (KEY.out _ (hrel.out.trans hst))
      clear hst
      by_cases hm57 : m < 144115188075855872
      · obtain ⟨hk0, hc⟩ : k = 0 ∧ s[k].toNat = 128 := by omega
        subst hk0
        have hcb : ((s[0].toNat : Int) == 128) = true := by simp [hc]
        go_wp2_with fail
        refine (mul64_small m _ hm57).mono ?_; rintro e w2 ⟨rfl, rfl⟩
        go_wp2_with fail
        refine (tears_any b _ _ hr).mono ?_; rintro e w2 ⟨rfl, h1, h2⟩
        go_wp2_with fail
        (first | go_ret | (rw [Exit.noGoto_ret]; go_ret))
        rw [hQ.out, HE.out]
        exact ⟨rfl, h1, h2⟩
      · go_wp2_with fail
        refine (mul64_big m _ (by omega) hm).mono ?_; rintro e w2 ⟨h, l, rfl, hh1, hh2, hl2, rfl⟩
        go_wp2_with fail
        refine (tears_any b _ _ hr).mono ?_; rintro e w2 ⟨rfl, h1, h2⟩
        go_wp2_with fail
        (first | go_ret | (rw [Exit.noGoto_ret]; go_ret))
        rw [hQ.out, HE.out]
        exact ⟨rfl, h1, h2⟩
    · rw [if_neg hbad] at hst
      have hm57 : m < 144115188075855872 := by omega
      obtain ⟨d, hd⟩ := nm (s[k].toNat % 128)
      have hd7 : d < 128 := by rw [hd.out]; omega
      have ho := or_digit m d hm57 hd7
      have HO : Hid (bits BinOp.or IntKind.u64 ((m : Int) * 128) (IntKind.u64.wrap (bits BinOp.and IntKind.u8 (s[k].toNat : Int) 127)) = ((m * 128 + d : Nat) : Int)) := by
        show _ = _
        rw [and_digit ⟨s[k].toNat, h256⟩, ← ho, hd.out, IntKind.wrap_u64]
        congr 1
        simp only
        omega
      clear ho
      rw [← hd.out] at hst
      by_cases hc : s[k].toNat < 128
      · rw [if_pos hc] at hst
        have HE := Lib.hid (KEY.out _ (hrel.out.trans hst))
        clear hst
        have HX : Hid (s.extract (k + 1) s.size = ofL ((bl s).drop (k + 1))) := by
          show _ = _
          refine bl_inj ?_
          rw [bl_extract, bl_ofL, List.take_of_length_le (by rw [List.length_drop, bl_length]; exact Nat.le_refl _)]
        have hcb : ((s[k].toNat : Int) == 128) = false := by simp; omega
        clear hbad
        by_cases hk0 : k = 0
        · subst hk0
          go_wp2_with fail
          refine (mul64_small m _ hm57).mono ?_; rintro e w2 ⟨rfl, rfl⟩
          go_wp2_with fail
          first | go_ret | (rw [Exit.noGoto_ret]; go_ret)
          rw [hQ.out, HE.out]
          simp only
          rw [← HX.out]
          exact ⟨congrArg (fun x => Ending.returned (Value.int .u64 x)) HO.out, hr.setLeft _, (Kept.refl _ _).set _ _⟩
        · go_wp2_with fail
          refine (mul64_small m _ hm57).mono ?_; rintro e w2 ⟨rfl, rfl⟩
          go_wp2_with fail
          first | go_ret | (rw [Exit.noGoto_ret]; go_ret)
          rw [hQ.out, HE.out]
          simp only
          rw [← HX.out]
          exact ⟨congrArg (fun x => Ending.returned (Value.int .u64 x)) HO.out, hr.setLeft _, (Kept.refl _ _).set _ _⟩
      · rw [if_neg hc] at hst
        have HE := Lib.hid (hrel.out.trans hst)
        clear hst
        by_cases hk0 : k = 0
        · subst hk0
          have hcb : ((s[0].toNat : Int) == 128) = false := by simp; omega
          clear hbad
          go_wp2_with fail
          refine (mul64_small m _ hm57).mono ?_; rintro e w2 ⟨rfl, rfl⟩
          go_wp2_with fail
          go_round
          case rel => exact ⟨0 + 1, m * 128 + d, by omega, by omega, by go_num, congrArg _ HO.out, by omega, HE⟩
          case measure => simp [intOf]
        · clear hbad
          go_wp2_with fail
          refine (mul64_small m _ hm57).mono ?_; rintro e w2 ⟨rfl, rfl⟩
          go_wp2_with fail
          go_round
          case rel => exact ⟨k + 1, m * 128 + d, by omega, by omega, by go_num, congrArg _ HO.out, by omega, HE⟩
          case measure => simp [intOf]; omega
end Go.Proofs.YtfpjdmplepepjaaGreat

/-! ReaderB: The reader's walks, continued: Int, Left. -/
namespace Go.Proofs.YtfpjdmplepepjaaGreat
open Go.RowKit

theorem Pl.rdG_lt : ∀ (f : Nat) (first : Bool) (m : Nat) (l : List UInt8) (n : Nat) (r : List UInt8), Pl.rdG f first m l = some (n, r) → n < 18446744073709551616 ∧ r.length < l.length
  | 0, _, _, _, _, _, h => by cases h
  | f + 1, _, _, [], _, _, h => by cases h
  | f + 1, first, m, c :: l, n, r, h => by
    rw [Pl.rdG] at h
    split at h
    · cases h
    · rename_i hn
      split at h
      · cases h
        exact ⟨by have := c.toNat_lt; omega, by simp⟩
      · obtain ⟨h1, h2⟩ := Pl.rdG_lt f _ _ _ _ _ h
        exact ⟨h1, by simp; omega⟩

theorem Rd.num_lt (r : Rd) : r.num.2 < 18446744073709551616 ∧ r.num.1.left.size ≤ r.left.size := by
  unfold Rd.num
  split
  · exact ⟨Nat.zero_lt_succ _, Nat.le_refl _⟩
  · split
    · rename_i n l h
      obtain ⟨h1, h2⟩ := Pl.rdG_lt _ _ _ _ _ _ h
      rw [bl_length] at h2
      exact ⟨h1, by simp only [ofL_size]; omega⟩
    · exact ⟨Nat.zero_lt_succ _, Nat.le_refl _⟩

set_option maxRecDepth 100000 in
set_option maxHeartbeats 1000000 in
theorem rint_any (b : Nat) (r : Rd) (most : Int) (w : World) (hr : IsRd w b r) (hs : r.left.size ≤ 4611686018427387904) (hm : most ≤ 9223372036854775807) :
    Calls Tryz.prog 44 #[.pointer (some ⟨b, 0, none⟩), .int .i64 most] w fun e w' => e = .returned (.int .i64 ((r.int most).2 : Nat)) ∧ IsRd w' b (r.int most).1 ∧ Kept b w w' := by
  have hlt := r.num_lt.1
  obtain ⟨Q, hQ⟩ := nm (r.int most)
  rw [← hQ.out]
  obtain ⟨n, hn⟩ := nm r.num.2
  have hlt : n < 18446744073709551616 := by rw [hn.out]; exact hlt
  by_cases h0 : most < 0
  · have e0 : Q = (⟨r.num.1.left, true⟩, 0) := by rw [hQ.out, Rd.int, if_pos (Or.inl h0)]
    rw [e0]; clear e0
    go_enter Tryz.func44, Tryz.ntmps44
    go_wp2_with fail
    refine (rnum_any b r w hr hs).mono ?_; rintro e w1 ⟨rfl, h1, h2⟩
    rw [← hn.out]
    go_wp2_with fail
    refine (tears_any b _ _ h1).mono ?_; rintro e w2 ⟨rfl, h3, h4⟩
    go_wp2_with fail
    go_ret
    exact ⟨rfl, h3, h2.trans h4⟩
  · obtain ⟨M, rfl⟩ : ∃ M : Nat, most = M := ⟨most.toNat, by omega⟩
    by_cases h1 : M < n
    · have e0 : Q = (⟨r.num.1.left, true⟩, 0) := by rw [hQ.out, Rd.int, if_pos (Or.inr (by rw [← hn.out]; omega))]
      rw [e0]; clear e0
      go_enter Tryz.func44, Tryz.ntmps44
      go_wp2_with fail
      refine (rnum_any b r w hr hs).mono ?_; rintro e w1 ⟨rfl, h1, h2⟩
      rw [← hn.out]
      go_wp2_with fail
      refine (tears_any b _ _ h1).mono ?_; rintro e w2 ⟨rfl, h3, h4⟩
      go_wp2_with fail
      go_ret
      exact ⟨rfl, h3, h2.trans h4⟩
    · have e0 : Q = (r.num.1, n) := by rw [hQ.out, Rd.int, if_neg (by rw [← hn.out]; omega), hn.out]
      rw [e0]; clear e0
      go_enter Tryz.func44, Tryz.ntmps44
      go_wp2_with fail
      refine (rnum_any b r w hr hs).mono ?_; rintro e w1 ⟨rfl, h1, h2⟩
      rw [← hn.out]
      go_wp2_with fail
      go_ret
      exact ⟨rfl, h1, h2⟩

theorem Rd.int_lt (r : Rd) (most : Int) : (r.int most).2 < 18446744073709551616 ∧ (r.int most).1.left.size ≤ r.left.size ∧ ((r.int most).2 = 0 ∨ ((r.int most).2 : Int) ≤ most) := by
  unfold Rd.int
  split
  · exact ⟨Nat.zero_lt_succ _, r.num_lt.2, .inl rfl⟩
  · exact ⟨r.num_lt.1, r.num_lt.2, .inr (by omega)⟩

def Rd.rest (r : Rd) : ByteArray := if r.torn then ⟨#[]⟩ else r.left
def Rd.fin (r : Rd) : Int := if r.torn = true ∨ r.left.size ≠ 0 then 10 else 0

theorem size_zero {s : ByteArray} (h : s.size = 0) : s = ⟨#[]⟩ := by
  refine bl_inj ?_
  have : (bl s).length = 0 := by rw [bl_length]; exact h
  rw [List.length_eq_zero_iff.1 this]; rfl
end Go.Proofs.YtfpjdmplepepjaaGreat

/-! ReaderT: The reader's walks, continued: Text, End. -/
namespace Go.Proofs.YtfpjdmplepepjaaGreat
open Go.RowKit

set_option maxRecDepth 100000 in
set_option maxHeartbeats 1000000 in
theorem rtext_any (b : Nat) (r : Rd) (most : Int) (w : World) (hr : IsRd w b r) (hs : r.left.size ≤ 4611686018427387904) (hm : most ≤ 9223372036854775807) :
    Calls Tryz.prog 14 #[.pointer (some ⟨b, 0, none⟩), .int .i64 most] w fun e w' => e = .returned (.string (r.text most).2) ∧ IsRd w' b (r.text most).1 ∧ Kept b w w' := by
  obtain ⟨i1, i2, i3⟩ := r.int_lt most
  obtain ⟨Q, hQ⟩ := nm (r.text most)
  rw [← hQ.out]
  obtain ⟨⟨⟨s, torn⟩, n⟩, hn⟩ := nm (r.int most)
  rw [← hn.out] at i1 i2 i3
  simp only at i1 i2 i3
  have hqq : Q = if torn = true ∨ s.size < n then (⟨s, true⟩, ⟨#[]⟩) else (⟨s.extract n s.size, false⟩, s.extract 0 n) := by rw [hQ.out, Rd.text, ← hn.out]
  have hn63 : n ≤ 9223372036854775807 := by omega
  cases torn
  · by_cases hsz : s.size < n
    · rw [if_pos (Or.inr hsz)] at hqq
      rw [hqq]; clear hqq
      go_enter Tryz.func14, Tryz.ntmps14
      go_wp2_with fail
      refine (rint_any b r most w hr hs hm).mono ?_; rintro e w1 ⟨rfl, h1, h2⟩
      rw [← hn.out] at h1 ⊢
      have c0 : w1.cell? ⟨b, 0, none⟩ = some (.string s) := h1.cell 0
      go_wp2_with (go_at_call 45; refine (fine_is false true rfl b s w1 h1).mono ?_; rintro e w2 ⟨rfl, rfl⟩)
      refine (tears_any b _ _ h1).mono ?_; rintro e w2 ⟨rfl, h3, h4⟩
      go_wp2_with fail
      go_ret
      exact ⟨rfl, h3, h2.trans h4⟩
    · rw [if_neg (by simp; omega)] at hqq
      rw [hqq]; clear hqq
      go_enter Tryz.func14, Tryz.ntmps14
      go_wp2_with fail
      refine (rint_any b r most w hr hs hm).mono ?_; rintro e w1 ⟨rfl, h1, h2⟩
      rw [← hn.out] at h1 ⊢
      have c0 : w1.cell? ⟨b, 0, none⟩ = some (.string s) := h1.cell 0
      have f0 : w1.frozen? ⟨b, 0, none⟩ = false := h1.free 0
      go_wp2_with (go_at_call 45; refine (fine_is false true rfl b s w1 h1).mono ?_; rintro e w2 ⟨rfl, rfl⟩)
      go_ret
      exact ⟨rfl, h1.setLeft _, h2.set _ _⟩
  · rw [if_pos (Or.inl rfl)] at hqq
    rw [hqq]; clear hqq
    go_enter Tryz.func14, Tryz.ntmps14
    go_wp2_with fail
    refine (rint_any b r most w hr hs hm).mono ?_; rintro e w1 ⟨rfl, h1, h2⟩
    rw [← hn.out] at h1 ⊢
    go_wp2_with (go_at_call 45; refine (fine_is true false rfl b s w1 h1).mono ?_; rintro e w2 ⟨rfl, rfl⟩)
    refine (tears_any b _ _ h1).mono ?_; rintro e w2 ⟨rfl, h3, h4⟩
    go_wp2_with fail
    go_ret
    exact ⟨rfl, h3, h2.trans h4⟩

set_option maxRecDepth 100000 in
set_option maxHeartbeats 1000000 in
theorem rend_any (b : Nat) (r : Rd) (w : World) (hr : IsRd w b r) :
    Calls Tryz.prog 18 #[.pointer (some ⟨b, 0, none⟩)] w fun e w' => e = .returned (.int .i64 r.fin) ∧ w = w' := by
  obtain ⟨s, torn⟩ := r
  cases torn
  · by_cases hz : s.size = 0
    · obtain rfl := size_zero hz
      have c0 : w.cell? ⟨b, 0, none⟩ = some (.string ⟨#[]⟩) := hr.cell 0
      rw [show (Rd.mk ⟨#[]⟩ false).fin = 0 from rfl]
      go_enter Tryz.func18, Tryz.ntmps18
      go_wp2_with (go_at_call 45; refine (fine_is false true rfl b _ w hr).mono ?_; rintro e w2 ⟨rfl, rfl⟩)
      go_ret
      exact ⟨rfl, rfl⟩
    · have c0 : w.cell? ⟨b, 0, none⟩ = some (.string s) := hr.cell 0
      have hni : s.toList.isEmpty = false := by
        rw [toList_bl, List.isEmpty_eq_false_iff]
        intro h
        rw [← bl_length, h] at hz
        exact hz rfl
      rw [show (Rd.mk s false).fin = 10 from by simp [Rd.fin, hz]]
      go_enter Tryz.func18, Tryz.ntmps18
      go_wp2_with (go_at_call 45; refine (fine_is false true rfl b _ w hr).mono ?_; rintro e w2 ⟨rfl, rfl⟩)
      go_ret
      exact ⟨rfl, rfl⟩
  · rw [show (Rd.mk s true).fin = 10 from by simp [Rd.fin]]
    go_enter Tryz.func18, Tryz.ntmps18
    go_wp2_with (go_at_call 45; refine (fine_is true false rfl b _ w hr).mono ?_; rintro e w2 ⟨rfl, rfl⟩)
    go_ret
    exact ⟨rfl, rfl⟩
end Go.Proofs.YtfpjdmplepepjaaGreat

/-! NumsT: What a reader that is torn reads. -/
namespace Go.Proofs.YtfpjdmplepepjaaGreat
open Go.RowKit

theorem Rd.int_torn (L : ByteArray) (m : Int) : (Rd.mk L true).int m = (⟨L, true⟩, 0) := by
  unfold Rd.int
  split <;> rfl
theorem Rd.text_torn (L : ByteArray) (m : Int) : (Rd.mk L true).text m = (⟨L, true⟩, ⟨#[]⟩) := by
  rw [Rd.text, Rd.int_torn, if_pos (Or.inl rfl)]

set_option maxRecDepth 100000 in
set_option maxHeartbeats 1000000 in
theorem rnums_torn (b : Nat) (L : ByteArray) (many most : Int) (w : World) (hr : IsRd w b ⟨L, true⟩) (hs : L.size ≤ 4611686018427387904) (hm : many ≤ 9223372036854775807) :
    Calls Tryz.prog 13 #[.pointer (some ⟨b, 0, none⟩), .int .i64 many, .int .i64 most] w fun e w' => e = .returned (.slice none 0 0) ∧ IsRd w' b ⟨L, true⟩ ∧ Kept b w w' := by
  have R0 := Lib.hid (Rd.int_torn L many)
  go_enter Tryz.func13, Tryz.ntmps13
  go_wp2_with fail
  refine (rint_any b ⟨L, true⟩ many _ (((hr.alloc _).alloc _).alloc _) hs hm).mono ?_; rintro e w1 ⟨rfl, h1, hk⟩
  rw [R0.out] at h1 ⊢
  have hbl := hr.lt
  have cO : w1.cell? ⟨w.heap.size + 1 + 1, 0, none⟩ = some (.slice none 0 0) := by
    have := (hk.blk (Blk.new _ _ _) (by simp; omega)).cell 0
    simpa using this
  replace hk := (((Kept.refl b w).alloc _).alloc _).alloc _ |>.trans hk
  go_wp2_with fail
  go_loop [13] (fun i => i = .int .i64 0) (fun _ => 0)
  case atStart => rfl
  case round =>
    obtain rfl := hrel
    go_wp2_with fail
    go_ret
    exact ⟨rfl, h1, hk⟩
end Go.Proofs.YtfpjdmplepepjaaGreat

/-! Next: The reader's Nums: its closure, which appends to a list that it holds; the loop. -/
namespace Go.Proofs.YtfpjdmplepepjaaGreat
open Go.RowKit

/-- Of what lay below base only the blocks b and o may have turned. -/
structure Past (base b o : Nat) (w w' : World) : Prop where
  os : w'.os = w.os
  tape : w'.tape = w.tape
  output : w'.output = w.output
  size : w.heap.size ≤ w'.heap.size
  block : ∀ k, k < base → k ≠ b → k ≠ o → w'.heap[k]? = w.heap[k]?
theorem Past.refl (base b o : Nat) (w : World) : Past base b o w w := ⟨rfl, rfl, rfl, Nat.le_refl _, fun _ _ _ _ => rfl⟩
theorem Past.trans {base b o : Nat} {w v u : World} (h : Past base b o w v) (k : Past base b o v u) : Past base b o w u :=
  ⟨k.os.trans h.os, k.tape.trans h.tape, k.output.trans h.output, Nat.le_trans h.size k.size, fun i hi hb ho => (k.block i hi hb ho).trans (h.block i hi hb ho)⟩
theorem Kept.past {b : Nat} {w v : World} (h : Kept b w v) {base o : Nat} (hb : base ≤ w.heap.size) : Past base b o w v :=
  ⟨h.os, h.tape, h.output, h.size, fun k hk hne _ => h.block k (by omega) hne⟩
theorem Past.blk {base b o : Nat} {w v : World} {c : Array Value} {t : TypeId} (h : Past base b o w v) {k : Nat} (hk : Blk w k c t) (hl : k < base) (h1 : k ≠ b) (h2 : k ≠ o) : Blk v k c t := (h.block k hl h1 h2).trans hk
theorem grown_blk {w w' : World} {row : Option Nat} (h : w.grownBy w' row) {k : Nat} {c : Array Value} {t : TypeId} (hk : Blk w k c t) (hne : some k ≠ row) : Blk w' k c t := (h.block k hk.lt hne).trans hk

theorem infoInt : (Tryz.prog.info? 3).map (fun i => (i.zero, i.size, i.bytes)) = some (some (.int .i64 0), 1, 8) := by kernel_rfl

/-- What the closure of Nums holds: the list v (of zs), the reader, the number. -/
structure Holds (base b O R M : Nat) (r : Rd) (most : Int) (v : Value) (zs : List Int) (w : World) : Prop where
  lb : b < base
  lO : O < base
  lR : R < base
  lM : M < base
  bO : b ≠ O
  bR : b ≠ R
  bM : b ≠ M
  OR : O ≠ R
  OM : O ≠ M
  size : base ≤ w.heap.size
  rd : IsRd w b r
  out : Blk w O #[v] 46
  box : Blk w R #[.pointer (some ⟨b, 0, none⟩)] 44
  num : Blk w M #[.int .i64 most] 3
  own : w.ownsRow base 3 1 v zs.length (zs.map (Value.int .i64))

theorem rint3_any {base b O R M : Nat} {r : Rd} {most : Int} {v : Value} {zs : List Int} (w w0 : World) (h : Holds base b O R M r most v zs w) (hd : w0 = w.drew) (hs : r.left.size ≤ 4611686018427387904) (hm : most ≤ 9223372036854775807) :
    Calls Tryz.prog 44 #[.pointer (some ⟨b, 0, none⟩), .int .i64 most] w0 fun e w' => e = .returned (.int .i64 ((r.int most).2 : Nat)) ∧ (Holds base b O R M (r.int most).1 most v zs w' ∧ Kept b w w') ∧
      w'.cell? ⟨O, 0, none⟩ = some v ∧ w'.cell? ⟨R, 0, none⟩ = some (.pointer (some ⟨b, 0, none⟩)) ∧ w'.cell? ⟨M, 0, none⟩ = some (.int .i64 most) := by
  subst hd
  refine (rint_any b r most _ h.rd.drew hs hm).mono ?_
  rintro e w' ⟨rfl, h1, hk⟩
  have hk2 : Kept b w w' := (Kept.refl b w).drew.trans hk
  have o1 := hk2.blk h.out h.bO.symm
  have o2 := hk2.blk h.box h.bR.symm
  have o3 := hk2.blk h.num h.bM.symm
  refine ⟨rfl, ⟨⟨h.lb, h.lO, h.lR, h.lM, h.bO, h.bR, h.bM, h.OR, h.OM, Nat.le_trans h.size hk2.size, h1, o1, o2, o3, ?_⟩, hk2⟩, o1.cell 0, o2.cell 0, o3.cell 0⟩
  have hg : w.grownBy w' (some b) := ⟨hk2.os, hk2.tape, hk2.output, hk2.size, fun k hk' hne => hk2.block k hk' (fun e => hne (by rw [e]))⟩
  refine h.own.kept hg ?_
  cases hv : v.ownBlock with
  | none => exact .inl rfl
  | some g =>
    right
    intro e
    have := (h.own.lt g hv).1
    have := h.lb
    cases e
    omega

theorem Holds.far {base b O R M : Nat} {r : Rd} {most : Int} {v : Value} {zs : List Int} {w w2 : World} {o : Obj} (h : Holds base b O R M r most v zs w) (hg : (w.alloc o).grownBy w2 v.ownBlock) :
    IsRd w2 b r ∧ Blk w2 O #[v] 46 ∧ Blk w2 R #[.pointer (some ⟨b, 0, none⟩)] 44 ∧ Blk w2 M #[.int .i64 most] 3 := by
  have hne : ∀ k, k < base → some k ≠ v.ownBlock := by
    intro k hk e
    have := (h.own.lt k e.symm).1
    omega
  exact ⟨grown_blk hg (h.rd.alloc o) (hne _ h.lb), grown_blk hg (h.out.alloc o) (hne _ h.lO), grown_blk hg (h.box.alloc o) (hne _ h.lR), grown_blk hg (h.num.alloc o) (hne _ h.lM)⟩

/-- Behind the append and its store. -/
theorem Holds.push {base b O R M : Nat} {r : Rd} {most : Int} {v : Value} {zs : List Int} {w w2 : World} {o : Obj} {g cap : Nat} {z : Int} (h : Holds base b O R M r most v zs w) (hg : (w.alloc o).grownBy w2 v.ownBlock)
    (hown : w2.ownsRow base 3 1 (.slice (some ⟨g, 0, none⟩) (zs.length + 1) cap) (zs.length + 1) (zs.map (Value.int .i64) ++ [.int .i64 z])) :
    Holds base b O R M r most (.slice (some ⟨g, 0, none⟩) (zs.length + 1) cap) (zs ++ [z]) (w2.setCell ⟨O, 0, none⟩ (.slice (some ⟨g, 0, none⟩) (zs.length + 1) cap)) ∧
      Past base b O w (w2.setCell ⟨O, 0, none⟩ (.slice (some ⟨g, 0, none⟩) (zs.length + 1) cap)) := by
  obtain ⟨d0, d1, d2, d3⟩ := h.far hg
  have hsz : w.heap.size ≤ w2.heap.size := Nat.le_trans (by simp) hg.size
  have hge : base ≤ g := (hown.lt g rfl).1
  have hg2 : w2.grownBy (w2.setCell ⟨O, 0, none⟩ (.slice (some ⟨g, 0, none⟩) (zs.length + 1) cap)) (some O) :=
    ⟨rfl, rfl, rfl, by simp [World.setCell], fun k _ hk => Below.heap_setCell _ _ _ _ (fun e => hk (by rw [e]))⟩
  refine ⟨⟨h.lb, h.lO, h.lR, h.lM, h.bO, h.bR, h.bM, h.OR, h.OM, ?_, Blk.setOther d0 h.bO _, Blk.set d1 0 _, Blk.setOther d2 h.OR.symm _, Blk.setOther d3 h.OM.symm _, ?_⟩, ?_⟩
  · have := h.size
    have := hg2.size
    omega
  · have := hown.kept hg2 (.inr (by simp only [Value.ownBlock]; intro e; cases e; have := h.lO; omega))
    simpa using this
  · refine ⟨hg.os, hg.tape, hg.output, Nat.le_trans hsz hg2.size, fun k hk h1 h2 => ?_⟩
    rw [hg2.block k (by have := h.size; omega) (by simp [h2]), hg.block k (by have := h.size; simp; omega) (by intro e; have := (h.own.lt k e.symm).1; omega), Below.heap_alloc _ _ _ (by have := h.size; omega)]

set_option maxRecDepth 100000 in
set_option maxHeartbeats 4000000 in
theorem next_any {base b O R M : Nat} {r : Rd} {most : Int} {v : Value} {zs : List Int} (w : World) (h : Holds base b O R M r most v zs w) (hs : r.left.size ≤ 4611686018427387904) (hm : most ≤ 9223372036854775807) (hz : zs.length ≤ 1000000) :
    Calls Tryz.prog 43 #[.pointer (some ⟨O, 0, none⟩), .pointer (some ⟨R, 0, none⟩), .pointer (some ⟨M, 0, none⟩)] w fun e w' =>
      e = .returned (.bool (!(r.int most).1.torn)) ∧ ∃ v', Holds base b O R M (r.int most).1 most v' (zs ++ [((r.int most).2 : Int)]) w' ∧ Past base b O w w' := by
  have c1 : w.cell? ⟨O, 0, none⟩ = some v := h.out.cell 0
  have c2 : w.cell? ⟨R, 0, none⟩ = some (.pointer (some ⟨b, 0, none⟩)) := h.box.cell 0
  have c3 : w.cell? ⟨M, 0, none⟩ = some (.int .i64 most) := h.num.cell 0
  obtain ⟨z, hzz⟩ := nm (r.int most).2
  obtain ⟨q, hq⟩ := nm (r.int most).1
  rw [← hzz.out, ← hq.out]
  have HR : Hid (∀ w0 : World, w0 = w.drew → Calls Tryz.prog 44 #[.pointer (some ⟨b, 0, none⟩), .int .i64 most] w0 fun e w' => e = .returned (.int .i64 (z : Nat)) ∧ (Holds base b O R M q most v zs w' ∧ Kept b w w') ∧
      w'.cell? ⟨O, 0, none⟩ = some v ∧ w'.cell? ⟨R, 0, none⟩ = some (.pointer (some ⟨b, 0, none⟩)) ∧ w'.cell? ⟨M, 0, none⟩ = some (.int .i64 most)) := by
    show ∀ _, _
    rw [hzz.out, hq.out]
    exact fun w0 hd => rint3_any w w0 h hd hs hm
  obtain ⟨i0, hi, hz0, hz1, hz2⟩ := info_parts infoInt
  go_enter Tryz.func43, Tryz.ntmps43
  go_wp2
  go_region_law
    (first
      | (go_simp; go_at_call 44; refine (HR.out _ ?_).mono ?_; rfl; rintro e w1 ⟨rfl, h1, g1, g2, g3⟩; have g4 : ∀ o, (w1.alloc o).cell? ⟨O, 0, none⟩ = some v := fun o => (h1.1.out.alloc o).cell 0; simp only [])
      | (refine step_append_lies _ (by rfl) _ _ 46 (by rfl) base 3 i0 (.int .i64 0) 1 8 Tryz.underlying46 hi hz0 hz1 hz2 rfl (by decide) v zs.length (zs.map (Value.int .i64)) (by rfl) (h1.1.own.alloc _) ⟨w1.heap.size, 0, none⟩ 1 1 [.int .i64 z] (by rfl) rfl
          (World.news_of_block (heap_alloc_new w1 _)) (by simp [Value.oneCell']) (by decide) (by unfold maxLen; omega) (by omega) (Nat.le_trans h1.1.size (by simp)) _ rfl ?_
         intro g cap w2 hown hgrow hat hlt
         obtain ⟨d0, d1, d2, d3⟩ := h1.1.far hgrow
         have e1 : w2.cell? ⟨O, 0, none⟩ = some v := d1.cell 0
         have e2 : w2.cell? ⟨R, 0, none⟩ = some (.pointer (some ⟨b, 0, none⟩)) := d2.cell 0
         have e3 : w2.cell? ⟨M, 0, none⟩ = some (.int .i64 most) := d3.cell 0
         have e4 : w2.frozen? ⟨O, 0, none⟩ = false := d1.free 0))
  all_goals
    obtain ⟨hH, hP⟩ := h1.1.push hgrow hown
    have hbx := hH.box.cell 0
    go_wp2_with fail
    refine (fine_any b _ _ hH.rd).mono ?_; rintro e w4 ⟨rfl, rfl⟩
    go_wp2_with fail
    go_ret
    exact ⟨rfl, _, hH, (h1.2.past h.size).trans hP⟩
end Go.Proofs.YtfpjdmplepepjaaGreat

/-! ReadNums: The reader's Nums, whole. -/
namespace Go.Proofs.YtfpjdmplepepjaaGreat
open Go.RowKit

/-- So many numbers are read, none above most. -/
def Rd.items (most : Int) : Nat → Rd → Rd × Option (List Int)
  | 0, r => (r, some [])
  | k + 1, r => if (r.int most).1.torn then ((r.int most).1, none) else ((Rd.items most k (r.int most).1).1, (Rd.items most k (r.int most).1).2.map (((r.int most).2 : Int) :: ·))
def Rd.nums (r : Rd) (many most : Int) : Rd × List Int := ((Rd.items most (r.int many).2 (r.int many).1).1, (Rd.items most (r.int many).2 (r.int many).1).2.getD [])

theorem Rd.num_uses (r : Rd) (h : r.num.1.torn = false) : r.torn = false ∧ r.num.1.left.size + 1 ≤ r.left.size := by
  unfold Rd.num at h ⊢
  split at h
  · rename_i ht; simp only at h; rw [ht] at h; cases h
  · rename_i ht
    rw [if_neg ht]
    split at h
    · rename_i n l hq
      have h2 := (Pl.rdG_lt _ _ _ _ _ _ hq).2
      rw [bl_length] at h2
      exact ⟨by simpa using ht, by simp only [ofL_size]; omega⟩
    · cases h
theorem Rd.int_uses (r : Rd) (m : Int) (h : (r.int m).1.torn = false) : r.torn = false ∧ (r.int m).1.left.size + 1 ≤ r.left.size := by
  unfold Rd.int at h ⊢
  split at h
  · cases h
  · rename_i hc
    rw [if_neg hc]
    exact r.num_uses h
theorem Rd.int_none (r : Rd) (m : Int) (h : (r.int m).2 ≠ 0) : (r.int m).1.torn = false := by
  unfold Rd.int at h ⊢
  split at h
  · exact absurd rfl h
  · rename_i hc
    rw [if_neg hc]
    unfold Rd.num at h ⊢
    split at h
    · exact absurd rfl h
    · rename_i ht
      rw [if_neg ht]
      split at h
      · rfl
      · exact absurd rfl h

/-- A slice that a call owns, as its elements. -/
theorem SlAt.own {w : World} {base : Nat} {v : Value} {zs : List Int} (h : w.ownsRow base 3 1 v zs.length (zs.map (Value.int .i64))) :
    ∃ ao cap, v = .slice ao zs.length cap ∧ zs.length ≤ cap ∧ SlAt w ao (zs.map (Value.int .i64)) := by
  rcases h.2 with ⟨rfl, h0⟩ | ⟨g, cap, cur, rfl, _, hg, hc, _, _, ht⟩
  · exact ⟨none, 0, by rw [h0], by omega, fun k hk => by rw [List.length_map, h0] at hk; omega⟩
  · refine ⟨some ⟨g, 0, none⟩, cap, rfl, hc, fun k _ => ⟨g, 0, rfl, lt_of_block hg, fun j hj => ?_⟩⟩
    rw [List.length_map] at hj
    rw [Nat.zero_add, ← ht, List.getElem?_take, if_pos (by omega)]
    simp [World.cell?, hg]

theorem Holds.start {b : Nat} {r : Rd} {most : Int} {w w1 : World} {o1 o2 o3 : Obj} (e1 : o1 = .cells #[.pointer (some ⟨b, 0, none⟩)] 44) (e2 : o2 = .cells #[.int .i64 most] 3) (e3 : o3 = .cells #[.slice none 0 0] 46)
    (hb : b < w.heap.size) (hk : Kept b (((w.alloc o1).alloc o2).alloc o3) w1) (hr : IsRd w1 b r) :
    Holds (w.heap.size + 3) b (w.heap.size + 1 + 1) w.heap.size (w.heap.size + 1) r most (.slice none 0 0) [] w1 := by
  subst e1 e2 e3
  have hs := hk.size
  simp at hs
  refine ⟨by omega, by omega, by omega, by omega, by omega, by omega, by omega, by omega, by omega, by omega, hr, ?_, ?_, ?_, ⟨rfl, .inl ⟨rfl, rfl⟩⟩⟩
  · have := hk.blk (Blk.new ((w.alloc (.cells #[.pointer (some ⟨b, 0, none⟩)] 44)).alloc (.cells #[.int .i64 most] 3)) #[.slice none 0 0] 46) (by simp; omega)
    simpa using this
  · exact hk.blk (((Blk.new w _ _).alloc _).alloc _) (by omega)
  · have := hk.blk ((Blk.new (w.alloc (.cells #[.pointer (some ⟨b, 0, none⟩)] 44)) #[.int .i64 most] 3).alloc (.cells #[.slice none 0 0] 46)) (by simp; omega)
    simpa using this

theorem Past.kept {b o base : Nat} {w w1 w2 : World} (hk : Kept b w w1) (hP : Past base b o w1 w2) (h1 : w.heap.size ≤ base) (h2 : w.heap.size ≤ o) : Kept b w w2 :=
  ⟨hP.os.trans hk.os, hP.tape.trans hk.tape, hP.output.trans hk.output, Nat.le_trans hk.size hP.size, fun k hk' hne => (hP.block k (by omega) hne (by omega)).trans (hk.block k hk' hne)⟩

set_option maxRecDepth 100000 in
set_option maxHeartbeats 4000000 in
theorem rnums_any (b : Nat) (r : Rd) (many most : Int) (w : World) (hr : IsRd w b r) (hs : r.left.size ≤ 1000000) (hm : many ≤ 9223372036854775807) (hm2 : most ≤ 9223372036854775807) :
    Calls Tryz.prog 13 #[.pointer (some ⟨b, 0, none⟩), .int .i64 many, .int .i64 most] w fun e w' =>
      ∃ ao cap, e = .returned (.slice ao (r.nums many most).2.length cap) ∧ (r.nums many most).2.length ≤ cap ∧ SlAt w' ao ((r.nums many most).2.map (Value.int .i64)) ∧ IsRd w' b (r.nums many most).1 ∧ Kept b w w' := by
  have hbl := hr.lt
  obtain ⟨i1, i2, i3⟩ := r.int_lt many
  have i4 := r.int_none many
  have i5 := r.int_uses many
  obtain ⟨q, hq⟩ := nm (r.int many).1
  obtain ⟨n, hn⟩ := nm (r.int many).2
  rw [← hq.out] at i2 i4 i5
  rw [← hn.out] at i1 i3 i4
  have hn63 : n ≤ 9223372036854775807 := by omega
  obtain ⟨Q, hQ⟩ := nm (r.nums many most)
  have hq2 : Q = ((Rd.items most n q).1, (Rd.items most n q).2.getD []) := by rw [hQ.out, Rd.nums, hn.out, hq.out]
  rw [← hQ.out]
  have HQ := Lib.hid hq2
  clear hq2
  have I4 := Lib.hid i4
  have I5 := Lib.hid i5
  clear i4 i5 i3
  go_enter Tryz.func13, Tryz.ntmps13
  go_wp2_with fail
  refine (rint_any b r many _ (((hr.alloc _).alloc _).alloc _) (by omega) hm).mono ?_; rintro e w1 ⟨rfl, h1, hk⟩
  rw [← hq.out] at h1
  rw [← hn.out]
  have hH := Holds.start rfl rfl rfl hbl hk h1
  have hP : Past (w.heap.size + 3) b (w.heap.size + 1 + 1) w1 w1 := Past.refl _ _ _ _
  replace hk := (((Kept.refl b w).alloc _).alloc _).alloc _ |>.trans hk
  clear h1
  go_wp2_with fail
  go_loopw [13] (fun i wr => ∃ (k : Nat) (ri : Rd) (v : Value) (zs : List Int), k ≤ n ∧ i = .int .i64 (k : Int) ∧ zs.length = k ∧ Holds (w.heap.size + 3) b (w.heap.size + 1 + 1) w.heap.size (w.heap.size + 1) ri most v zs wr ∧ Past (w.heap.size + 3) b (w.heap.size + 1 + 1) w1 wr ∧
    (k < n → ri.torn = false) ∧ ri.left.size + k ≤ 1000000 ∧ Hid (Rd.items most n q = ((Rd.items most (n - k) ri).1, (Rd.items most (n - k) ri).2.map (zs ++ ·)))) (fun i _ => n - (intOf i).toNat)
  case atStart => exact ⟨0, q, _, [], by omega, rfl, rfl, hH, hP, fun h => I4.out (by omega), by omega, Lib.hid (by simp)⟩
  case round =>
    clear hH hP
    obtain ⟨k, ri, v, zs, hkn, rfl, hz, hH, hP, ht, hsz, hI⟩ := hrel
    by_cases hlt : k < n
    · have hfine := ht hlt
      obtain ⟨e1, e2, e3⟩ := ri.int_lt most
      have u1 := ri.int_uses most
      have hst : Rd.items most (n - k) ri = if (ri.int most).1.torn then ((ri.int most).1, none) else ((Rd.items most (n - (k + 1)) (ri.int most).1).1, (Rd.items most (n - (k + 1)) (ri.int most).1).2.map (((ri.int most).2 : Int) :: ·)) := by
        rw [show n - k = (n - (k + 1)) + 1 from by omega, Rd.items]
      obtain ⟨rj, hj⟩ := nm (ri.int most).1
      obtain ⟨z, hzz⟩ := nm (ri.int most).2
      go_wp2_with fail
      refine (next_any _ hH (by omega) hm2 (by omega)).mono ?_; rintro e w2 ⟨rfl, v', hH2, hP2⟩
      rw [← hj.out, ← hzz.out] at hH2
      rw [← hj.out]
      have hP3 := hP.trans hP2
      clear hH hP hP2
      rw [← hj.out, ← hzz.out] at hst
      rw [← hj.out] at e2 u1
      have htt : rj.torn = false ∨ rj.torn = true := by cases rj.torn <;> simp
      rcases htt with htt | htt
      · have u2 := (u1 htt).2
        rw [htt] at hst ⊢
        rw [if_neg (by decide)] at hst
        have HI : Hid (Rd.items most n q = ((Rd.items most (n - (k + 1)) rj).1, (Rd.items most (n - (k + 1)) rj).2.map ((zs ++ [(z : Int)]) ++ ·))) := by
          show _ = _
          rw [hI.out, hst]
          simp only [Option.map_map]
          congr 2
          funext l
          simp
        clear hst hI u1
        go_wp2_with fail
        go_roundw
        case rel => exact ⟨k + 1, rj, v', zs ++ [(z : Int)], by omega, by go_num, by simp [hz], hH2, hP3, fun _ => htt, by omega, HI⟩
        case measure => simp [intOf]; omega
      · have HE : Hid (Q = (rj, [])) := by
          show _ = _
          rw [HQ.out, hI.out, hst, htt]; rfl
        clear hst hI u1
        rw [htt]
        go_wp2_with fail
        go_ret
        rw [HE.out]
        exact ⟨none, 0, rfl, Nat.le_refl _, (fun k hk => by simp at hk), hH2.rd, hP3.kept hk (by omega) (by omega)⟩
    · obtain rfl : k = n := by omega
      have HE : Hid (Q = (ri, zs)) := by
        show _ = _
        rw [HQ.out, hI.out, Nat.sub_self]
        simp [Rd.items]
      obtain ⟨ao, cap, rfl, hcap, hsl⟩ := SlAt.own hH.own
      have cO := hH.out.cell 0
      have cO2 : wr.cell? ⟨w.heap.size + 1 + 1, 0, none⟩ = some (.slice ao zs.length cap) := cO
      clear cO
      go_wp2_with fail
      go_ret
      rw [HE.out]
      exact ⟨ao, cap, (by show _ = Ending.returned (Value.slice ao zs.length cap); rw [hz]; rfl), hcap, hsl, hH.rd, hP.kept hk (by omega) (by omega)⟩
end Go.Proofs.YtfpjdmplepepjaaGreat

/-! BackPlain: What was written is read again: a number, a text, a list; what stands behind is left. No program in sight. -/
namespace Go.Proofs.YtfpjdmplepepjaaGreat
open Go.RowKit

theorem Rd.num_back (n : Nat) (hn : n < 18446744073709551616) (t : List UInt8) : (Rd.mk (ofL (Pl.num n ++ t)) false).num = (⟨ofL t, false⟩, n) := by
  rw [Rd.num, if_neg (by simp)]
  show (match Pl.rdNum (Pl.num n ++ t) with | some (n, l) => ((⟨ofL l, false⟩ : Rd), n) | none => _) = _
  rw [Pl.rd_num n hn t]

theorem Rd.int_back (n : Nat) (most : Int) (hn : n < 18446744073709551616) (h : (n : Int) ≤ most) (t : List UInt8) : (Rd.mk (ofL (Pl.num n ++ t)) false).int most = (⟨ofL t, false⟩, n) := by
  rw [Rd.int, Rd.num_back n hn t, if_neg (by simp only; omega)]

theorem Rd.text_back (l t : List UInt8) (most : Int) (h : (l.length : Int) ≤ most) (h2 : l.length < 18446744073709551616) : (Rd.mk (ofL (textL l ++ t)) false).text most = (⟨ofL t, false⟩, ofL l) := by
  have e := Rd.int_back l.length most h2 h (l ++ t)
  rw [← List.append_assoc] at e
  have e2 : (Rd.mk (ofL (textL l ++ t)) false).int most = (⟨ofL (l ++ t), false⟩, l.length) := e
  rw [Rd.text, e2, if_neg]
  · simp only
    refine Prod.ext ?_ ?_
    · simp only [Rd.mk.injEq, and_true]
      refine bl_inj ?_
      rw [bl_extract, bl_ofL, bl_ofL, List.drop_left, List.take_of_length_le (by rw [ofL_size, List.length_append]; omega)]
    · refine bl_inj ?_
      rw [bl_extract, bl_ofL, bl_ofL, List.drop_zero, Nat.sub_zero, List.take_left]
  · simp only [ofL_size, List.length_append]
    intro h
    rcases h with h | h
    · cases h
    · omega

theorem Rd.items_back (most : Int) : ∀ (zs : List Int) (t : List UInt8), (∀ z ∈ zs, 0 ≤ z ∧ z ≤ most ∧ z < 18446744073709551616) → Rd.items most zs.length (Rd.mk (ofL (intsL zs ++ t)) false) = (⟨ofL t, false⟩, some zs)
  | [], t, _ => rfl
  | z :: zs, t, h => by
    obtain ⟨h1, h2, h3⟩ := h z (by simp)
    have e : intsL (z :: zs) ++ t = Pl.num z.toNat ++ (intsL zs ++ t) := by simp [intsL]
    have e2 := Rd.int_back z.toNat most (by omega) (by omega) (intsL zs ++ t)
    rw [List.length_cons, Rd.items, e, e2]
    simp only [Bool.false_eq_true, if_false]
    rw [Rd.items_back most zs t (fun y hy => h y (by simp [hy]))]
    simp only [Option.map_some]
    rw [show ((z.toNat : Nat) : Int) = z from by omega]

theorem Rd.nums_back (most many : Int) (zs : List Int) (t : List UInt8) (hl : zs.length < 18446744073709551616) (h0 : (zs.length : Int) ≤ many) (h : ∀ z ∈ zs, 0 ≤ z ∧ z ≤ most ∧ z < 18446744073709551616) :
    (Rd.mk (ofL (numsL zs ++ t)) false).nums many most = (⟨ofL t, false⟩, zs) := by
  have e := Rd.int_back zs.length many hl h0 (intsL zs ++ t)
  rw [← List.append_assoc] at e
  have e2 : (Rd.mk (ofL (numsL zs ++ t)) false).int many = (⟨ofL (intsL zs ++ t), false⟩, zs.length) := e
  rw [Rd.nums, e2]
  simp only
  rw [Rd.items_back most zs t h]
  rfl
end Go.Proofs.YtfpjdmplepepjaaGreat

/-! PlainR: The document's reader of a number is the program's. No program in sight. -/
namespace Go.Proofs.YtfpjdmplepepjaaGreat.Pl

/-- What is read is a number's digits. -/
theorem rdG_is : ∀ (f : Nat) (first : Bool) (m : Nat) (l : List UInt8) (n : Nat) (r : List UInt8), rdG f first m l = some (n, r) →
    ∃ k, k + 1 ≤ f ∧ m = n / 128 ^ (k + 1) ∧ l = dg k (n / 128) ++ UInt8.ofNat (n % 128) :: r ∧ (first = true → k = 0 ∨ n / 128 ^ k % 128 ≠ 0)
  | 0, _, _, _, _, _, h => by cases h
  | f + 1, _, _, [], _, _, h => by cases h
  | f + 1, first, m, c :: l, n, r, h => by
    rw [rdG] at h
    have hc := c.toNat_lt
    split at h
    · cases h
    · rename_i hb
      split at h
      · rename_i hc2
        have hc3 : c.toNat < 128 := by rw [UInt8.lt_iff_toNat_lt] at hc2; exact hc2
        cases h
        refine ⟨0, by omega, by omega, ?_, fun _ => .inl rfl⟩
        have e : (m * 128 + c.toNat % 128) % 128 = c.toNat := by omega
        rw [e]
        simp [dg]
      · rename_i hc2
        have hc3 : 128 ≤ c.toNat := by
          rcases Nat.lt_or_ge c.toNat 128 with h' | h'
          · exact absurd (UInt8.lt_iff_toNat_lt.2 h') hc2
          · exact h'
        obtain ⟨k, h1, h2, h3, _⟩ := rdG_is f false _ l n r h
        have e0 : n / 128 / 128 ^ k = n / 128 ^ (k + 1) := by rw [Nat.div_div_eq_div_mul, Nat.pow_succ, Nat.mul_comm]
        have e1 : n / 128 ^ (k + 1 + 1) = n / 128 ^ (k + 1) / 128 := by rw [Nat.div_div_eq_div_mul, Nat.pow_succ]
        refine ⟨k + 1, by omega, by rw [e1, ← h2]; omega, ?_, fun hf => .inr ?_⟩
        · rw [dg, e0, ← h2, List.cons_append, ← h3]
          congr 1
          have e : 128 + (m * 128 + c.toNat % 128) % 128 = c.toNat := by omega
          rw [e]
          simp
        · rw [← h2]
          intro h0
          apply hb
          right
          refine ⟨hf, UInt8.toNat_inj.1 ?_⟩
          show c.toNat = 128
          omega

theorem rdNum_is (l : List UInt8) (n : Nat) (r : List UInt8) (hn : n < 18446744073709551616) (h : rdNum l = some (n, r)) : l = num n ++ r := by
  obtain ⟨k, h1, h2, h3, h4⟩ := rdG_is 10 true 0 l n r h
  have hk : k + 1 = nd n := by
    refine nd_unique n (k + 1) hn (by omega) ?_ ?_
    · rcases Nat.lt_or_ge n (128 ^ (k + 1)) with h5 | h5
      · exact h5
      · have : 1 ≤ n / 128 ^ (k + 1) := by rw [Nat.le_div_iff_mul_le (Nat.pow_pos (by decide))]; omega
        omega
    · rcases h4 rfl with h5 | h5
      · left; omega
      · right
        rw [Nat.add_sub_cancel]
        rcases Nat.lt_or_ge n (128 ^ k) with h6 | h6
        · rw [Nat.div_eq_of_lt h6] at h5; exact absurd rfl h5
        · exact h6
  rw [h3, num, ← hk, Nat.add_sub_cancel]
  simp

/-- Without the first digit's test as much is read. -/
theorem rdG_false : ∀ (f : Nat) (m : Nat) (l : List UInt8) (x : Nat × List UInt8), rdG f true m l = some x → rdG f false m l = some x
  | 0, _, _, _, h => by cases h
  | f + 1, _, [], _, h => by cases h
  | f + 1, m, c :: l, x, h => by
    rw [rdG] at h ⊢
    split at h
    · cases h
    · rename_i hb
      rw [if_neg (by intro h'; rcases h' with h' | ⟨h', _⟩; exact hb (.inl h'); cases h')]
      exact h

/-- The document's: it reads on, and then holds what it read against the number's bytes. -/
theorem ref_reads (l : List UInt8) (hb : ∀ n r, rdG 10 false 0 l = some (n, r) → n < 18446744073709551616) : rdNum l = match rdG 10 false 0 l with
    | some (n, r) => if num n = l.take (l.length - r.length) then some (n, r) else none
    | none => none := by
  cases h : rdG 10 false 0 l with
  | none =>
    simp only
    cases h2 : rdNum l with
    | none => rfl
    | some x => rw [rdG_false 10 0 l x h2] at h; cases h
  | some x =>
    obtain ⟨n, r⟩ := x
    have hn := hb n r h
    simp only
    obtain ⟨k, _, _, h3, _⟩ := rdG_is 10 false 0 l n r h
    split
    · rename_i he
      have h5 : l = l.take (l.length - r.length) ++ r := by
        have hlen : l.length - r.length = (dg k (n / 128) ++ [UInt8.ofNat (n % 128)]).length := by rw [h3]; simp; omega
        rw [hlen]
        have h6 : l = (dg k (n / 128) ++ [UInt8.ofNat (n % 128)]) ++ r := by rw [h3]; simp
        conv => rhs; rw [h6, List.take_left]
        exact h6
      rw [← he] at h5
      rw [h5]
      exact rd_num n hn r
    · rename_i he
      cases h2 : rdNum l with
      | none => rfl
      | some x =>
        obtain ⟨n2, r2⟩ := x
        have h4 := rdG_false 10 0 l _ h2
        rw [h] at h4
        cases h4
        exfalso
        apply he
        have h5 := rdNum_is l n r hn h2
        rw [h5]
        simp
end Go.Proofs.YtfpjdmplepepjaaGreat.Pl

/-! WRed: What a reader reads, as what stands there. No program in sight. -/
namespace Go.Proofs.YtfpjdmplepepjaaGreat
open Go.RowKit

/-- Behind r stands an x that is so, and r' stands behind it; or r' is torn, and no such stands there. -/
def Red {α : Type} (P : α → Prop) (f : α → List UInt8) (r r' : Rd) (x : α) : Prop :=
  (r'.torn = false ∧ r.torn = false ∧ P x ∧ bl r.left = f x ++ bl r'.left) ∨ (r'.torn = true ∧ ∀ y t, r.torn = false → P y → bl r.left ≠ f y ++ t)
section
variable {α β : Type} {P : α → Prop} {f : α → List UInt8} {r r' r'' : Rd} {x : α}
theorem Red.iff {P' : α → Prop} (h : Red P f r r' x) (hp : ∀ y, P y ↔ P' y) : Red P' f r r' x := by
  rcases h with ⟨h1, h2, h3, h4⟩ | ⟨h1, h2⟩
  · exact .inl ⟨h1, h2, (hp x).1 h3, h4⟩
  · exact .inr ⟨h1, fun y t ht hy => h2 y t ht ((hp y).2 hy)⟩
/-- As another kind of thing. -/
theorem Red.map {P' : β → Prop} {f' : β → List UInt8} (u : α → β) (v : β → α) (h : Red P f r r' x) (h1 : ∀ y, P y → P' (u y) ∧ f' (u y) = f y) (h2 : ∀ z, P' z → P (v z) ∧ f (v z) = f' z) : Red P' f' r r' (u x) := by
  rcases h with ⟨g1, g2, g3, g4⟩ | ⟨g1, g2⟩
  · exact .inl ⟨g1, g2, (h1 x g3).1, by rw [(h1 x g3).2]; exact g4⟩
  · exact .inr ⟨g1, fun y t ht hy => by rw [← (h2 y hy).2]; exact g2 (v y) t ht (h2 y hy).1⟩
theorem Red.torn (h : Red P f r r' x) (ht : r.torn = true) : r'.torn = true := by
  rcases h with ⟨_, h2, _⟩ | ⟨h1, _⟩
  · rw [ht] at h2; cases h2
  · exact h1
theorem Red.is (h : Red P f r r' x) (ht : r'.torn = false) : r.torn = false ∧ P x ∧ bl r.left = f x ++ bl r'.left := by
  rcases h with ⟨_, h2⟩ | ⟨h1, _⟩
  · exact h2
  · rw [ht] at h1; cases h1
theorem Red.none (h : Red P f r r' x) (ht : r'.torn = true) : ∀ y t, r.torn = false → P y → bl r.left ≠ f y ++ t := by
  rcases h with ⟨h1, _⟩ | ⟨_, h2⟩
  · rw [ht] at h1; cases h1
  · exact h2
/-- One thing, and another one behind it. -/
theorem Red.seq {Q : β → Prop} {g : β → List UInt8} {y : β} (h : Red P f r r' x) (k : Red Q g r' r'' y) (ht : Tells P f) : Red (fun p : α × β => P p.1 ∧ Q p.2) (fun p => f p.1 ++ g p.2) r r'' (x, y) := by
  rcases h with ⟨h1, h2, h3, h4⟩ | ⟨h1, h2⟩
  · rcases k with ⟨k1, _, k3, k4⟩ | ⟨k1, k2⟩
    · exact .inl ⟨k1, h2, ⟨h3, k3⟩, by rw [h4, k4, List.append_assoc]⟩
    · refine .inr ⟨k1, fun z t _ hz e => ?_⟩
      rw [h4, List.append_assoc] at e
      obtain ⟨_, e2⟩ := ht _ _ _ _ h3 hz.1 e
      exact k2 z.2 t h1 hz.2 e2
  · refine .inr ⟨k.torn h1, fun z t hr hz e => ?_⟩
    simp only [List.append_assoc] at e
    exact h2 z.1 _ hr hz.1 e
/-- What is read may be. -/
theorem Red.pass {C : α → Prop} (h : Red P f r r' x) (hc : r'.torn = false → C x) : Red (fun y => P y ∧ C y) f r r' x := by
  rcases h with ⟨h1, h2, h3, h4⟩ | ⟨h1, h2⟩
  · exact .inl ⟨h1, h2, ⟨h3, hc h1⟩, h4⟩
  · exact .inr ⟨h1, fun y t ht hy => h2 y t ht hy.1⟩
/-- It may not, or nothing was read. -/
theorem Red.fail {C : α → Prop} {z : α} (h : Red P f r r' x) (ht : Tells P f) (hc : r'.torn = true ∨ ¬ C x) (hr : r''.torn = true) : Red (fun y => P y ∧ C y) f r r'' z := by
  refine .inr ⟨hr, fun y t hr hy e => ?_⟩
  rcases h with ⟨h1, h2, h3, h4⟩ | ⟨h1, h2⟩
  · rcases hc with hc | hc
    · rw [h1] at hc; cases hc
    · rw [h4] at e
      obtain ⟨e1, _⟩ := ht _ _ _ _ h3 hy.1 e
      exact hc (e1 ▸ hy.2)
  · exact h2 y t hr hy.1 e
/-- Torn already: whatever it says. -/
theorem Red.any {z : α} (h : Red P f r r' x) (ht : r'.torn = true) (hr : r''.torn = true) : Red P f r r'' z := .inr ⟨hr, h.none ht⟩
end
theorem Tells.sub {α : Type} {P Q : α → Prop} {f : α → List UInt8} (h : Tells P f) (hq : ∀ x, Q x → P x) : Tells Q f := fun x y r t hx hy e => h x y r t (hq x hx) (hq y hy) e
theorem Tells.seq {α β : Type} {P : α → Prop} {Q : β → Prop} {f : α → List UInt8} {g : β → List UInt8} (h : Tells P f) (k : Tells Q g) : Tells (fun p : α × β => P p.1 ∧ Q p.2) (fun p => f p.1 ++ g p.2) := by
  rintro ⟨x1, x2⟩ ⟨y1, y2⟩ r t ⟨hx1, hx2⟩ ⟨hy1, hy2⟩ e
  simp only [List.append_assoc] at e
  obtain ⟨e1, e⟩ := h _ _ _ _ hx1 hy1 e
  obtain ⟨e2, e⟩ := k _ _ _ _ hx2 hy2 e
  exact ⟨by rw [show x1 = y1 from e1, show x2 = y2 from e2], e⟩

/-! ### Numbers, texts -/
def In (most z : Int) : Prop := 0 ≤ z ∧ z ≤ most
def numZ (z : Int) : List UInt8 := Pl.num z.toNat
theorem tells_in {most : Int} (h : most ≤ 9223372036854775807) : Tells (In most) numZ := Tells.sub tells_num fun x hx => ⟨hx.1, by have := hx.2; omega⟩
theorem red_int (r : Rd) (most : Int) (hm : most ≤ 9223372036854775807) : Red (In most) numZ r (r.int most).1 ((r.int most).2 : Int) := by
  obtain ⟨s, t⟩ := r
  cases t
  rotate_left
  · refine .inr ⟨?_, fun _ _ h => by cases h⟩
    unfold Rd.int
    split
    · rfl
    · rfl
  unfold Rd.int
  have hn : (Rd.mk s false).num = match Pl.rdNum (bl s) with | some (n, l) => (⟨ofL l, false⟩, n) | none => (⟨s, true⟩, 0) := rfl
  rw [hn]
  cases hq : Pl.rdNum (bl s) with
  | none =>
    simp only
    have key : ∀ y t, In most y → bl s ≠ numZ y ++ t := by
      intro y t hy e
      rw [e, numZ, Pl.rd_num _ (by have := hy.2; have := hy.1; omega)] at hq
      cases hq
    split
    · exact .inr ⟨rfl, fun y t _ hy => key y t hy⟩
    · exact .inr ⟨rfl, fun y t _ hy => key y t hy⟩
  | some q =>
    obtain ⟨n, l⟩ := q
    have hlt := (Pl.rdG_lt _ _ _ _ _ _ hq).1
    have his := Pl.rdNum_is _ _ _ hlt hq
    simp only
    split
    · rename_i hc
      refine .inr ⟨rfl, fun y t _ hy e => ?_⟩
      simp only at e
      rw [his] at e
      have h1 := hy.1
      have h2 := hy.2
      obtain ⟨e1, _⟩ := Pl.num_inj hlt (by omega) e
      rcases hc with hc | hc
      · omega
      · rw [e1] at hc; omega
    · rename_i hc
      refine .inl ⟨rfl, rfl, ⟨by omega, by omega⟩, ?_⟩
      show bl s = numZ n ++ bl (ofL l)
      rw [his, bl_ofL]; rfl
def Tx (most : Int) (s : ByteArray) : Prop := (s.size : Int) ≤ most
def textZ (s : ByteArray) : List UInt8 := textL (bl s)
theorem tells_tx {most : Int} (h : most ≤ 1000000) : Tells (Tx most) textZ := Tells.sub tells_text fun x (hx : (x.size : Int) ≤ most) => by omega
theorem red_text (r : Rd) (most : Int) (hm : most ≤ 1000000) : Red (Tx most) textZ r (r.text most).1 (r.text most).2 := by
  have hi := red_int r most (by omega)
  unfold Rd.text
  obtain ⟨q, hq⟩ := nm (r.int most).1
  obtain ⟨n, hn⟩ := nm (r.int most).2
  rw [← hq.out, ← hn.out] at hi ⊢
  have key : (q.torn = true ∨ q.left.size < n) → ∀ y t, r.torn = false → Tx most y → bl r.left ≠ textZ y ++ t := by
    intro hc y t hr hy e
    have hy2 : (y.size : Int) ≤ most := hy
    have e' : bl r.left = numZ (y.size : Int) ++ (bl y ++ t) := by
      rw [e, textZ, textL, bl_length, List.append_assoc]; rfl
    rcases hi with ⟨h1, h2, h3, h4⟩ | ⟨h1, h2⟩
    · rcases hc with hc | hc
      · rw [h1] at hc; cases hc
      · rw [h4] at e'
        obtain ⟨e1, e2⟩ := tells_in (most := most) (by omega) _ _ _ _ h3 ⟨by omega, hy2⟩ e'
        have e3 : q.left.size = y.size + t.length := by rw [← bl_length, e2, List.length_append, bl_length]
        omega
    · exact h2 (y.size : Int) _ hr ⟨by omega, hy2⟩ e'
  split
  · rename_i hc
    exact .inr ⟨rfl, key hc⟩
  · rename_i hc
    have hqt : q.torn = false := by
      cases h : q.torn with
      | false => rfl
      | true => exact absurd (.inl h) hc
    have hsz : n ≤ q.left.size := by
      rcases Nat.lt_or_ge q.left.size n with h | h
      · exact absurd (.inr h) hc
      · exact h
    obtain ⟨h1, h2, h3⟩ := hi.is hqt
    have e1 : (q.left.extract 0 n).size = n := by rw [← bl_length, bl_extract, List.drop_zero, Nat.sub_zero, List.length_take, bl_length]; omega
    refine .inl ⟨rfl, h1, by show ((q.left.extract 0 n).size : Int) ≤ most; rw [e1]; exact h2.2, ?_⟩
    rw [h3]
    show Pl.num n ++ bl q.left = (Pl.num (bl (q.left.extract 0 n)).length ++ bl (q.left.extract 0 n)) ++ bl (q.left.extract n q.left.size)
    rw [bl_length, e1, List.append_assoc, bl_extract, bl_extract, List.drop_zero, Nat.sub_zero]
    rw [List.take_of_length_le (l := (bl q.left).drop n) (by rw [List.length_drop, bl_length]; exact Nat.le_refl _), List.take_append_drop]

/-! ### Rows -/
/-- k of n were read, from q on: zs; or torn, and no n stand there. -/
def RedN {α : Type} (P : α → Prop) (f : α → List UInt8) (n : Nat) (q : Rd) (k : Nat) (r : Rd) (zs : List α) : Prop :=
  zs.length = k ∧ ((r.torn = false ∧ q.torn = false ∧ (∀ z ∈ zs, P z) ∧ bl q.left = zs.flatMap f ++ bl r.left) ∨ (r.torn = true ∧ ∀ (ys : List α) (t : List UInt8), q.torn = false → ys.length = n → (∀ y ∈ ys, P y) → bl q.left ≠ ys.flatMap f ++ t))
section
variable {α : Type} {P : α → Prop} {f : α → List UInt8} {n k : Nat} {q r r' : Rd} {zs : List α} {x : α}
theorem RedN.zero (q : Rd) : RedN P f n q 0 q [] := by
  refine ⟨rfl, ?_⟩
  cases h : q.torn with
  | false => exact .inl ⟨rfl, rfl, by simp, by simp⟩
  | true => exact .inr ⟨rfl, fun _ _ h2 => by cases h2⟩
theorem RedN.next (ht : Tells P f) (h : RedN P f n q k r zs) (hk : k < n) (g : Red P f r r' x) : RedN P f n q (k + 1) r' (zs ++ [x]) := by
  obtain ⟨hl, h⟩ := h
  refine ⟨by simp [hl], ?_⟩
  rcases h with ⟨h1, h2, h3, h4⟩ | ⟨h1, h2⟩
  · rcases g with ⟨g1, _, g3, g4⟩ | ⟨g1, g2⟩
    · refine .inl ⟨g1, h2, ?_, ?_⟩
      · intro z hz
        rcases List.mem_append.1 hz with hz | hz
        · exact h3 z hz
        · obtain rfl : z = x := by simpa using hz
          exact g3
      · rw [h4, g4, List.flatMap_append, List.append_assoc]; simp
    · refine .inr ⟨g1, fun ys t _ hy1 hy2 e => ?_⟩
      have hlt : k < ys.length := by omega
      have e1 : ys = ys.take k ++ ys[k] :: ys.drop (k + 1) := by rw [← List.drop_eq_getElem_cons hlt, List.take_append_drop]
      rw [h4, e1, List.flatMap_append, List.append_assoc] at e
      obtain ⟨_, e2⟩ := tells_many ht zs (ys.take k) _ _ (by rw [hl, List.length_take]; omega) h3 (fun y hy => hy2 y (List.mem_of_mem_take hy)) e
      rw [List.flatMap_cons, List.append_assoc] at e2
      exact g2 ys[k] _ h1 (hy2 _ (List.getElem_mem hlt)) e2
  · exact .inr ⟨g.torn h1, h2⟩
theorem RedN.red {most : Int} {r0 : Rd} (hi : Red (In most) numZ r0 q (n : Int)) (hm : most ≤ 1000000) (h : RedN P f n q n r zs) : Red (fun xs : List α => (xs.length : Int) ≤ most ∧ ∀ y ∈ xs, P y) (rowL f) r0 r zs := by
  obtain ⟨hl, h⟩ := h
  rcases h with ⟨h1, h2, h3, h4⟩ | ⟨h1, h2⟩
  · obtain ⟨i1, i2, i3⟩ := hi.is h2
    refine .inl ⟨h1, i1, ⟨by rw [hl]; exact i2.2, h3⟩, ?_⟩
    rw [i3, h4, rowL, hl, List.append_assoc]; rfl
  · refine .inr ⟨h1, fun ys t hr hy e => ?_⟩
    obtain ⟨hy1, hy2⟩ := hy
    have e' : bl r0.left = numZ (ys.length : Int) ++ (ys.flatMap f ++ t) := by rw [e, rowL, List.append_assoc]; rfl
    rcases hi with ⟨i1, i2, i3, i4⟩ | ⟨i1, i2⟩
    · rw [i4] at e'
      obtain ⟨e1, e2⟩ := tells_in (most := most) (by omega) _ _ _ _ i3 ⟨by omega, hy1⟩ e'
      exact h2 ys t i1 (by omega) hy2 e2
    · exact i2 _ _ hr ⟨by omega, hy1⟩ e'
/-- Torn on the way. -/
theorem RedN.stop {most : Int} {r0 : Rd} {z : List α} (hi : Red (In most) numZ r0 q (n : Int)) (hm : most ≤ 1000000) (h : RedN P f n q k r zs) (hr : r.torn = true) (hr' : r'.torn = true) : Red (fun xs : List α => (xs.length : Int) ≤ most ∧ ∀ y ∈ xs, P y) (rowL f) r0 r' z := by
  obtain ⟨_, h⟩ := h
  rcases h with ⟨h1, _⟩ | ⟨h1, h2⟩
  · rw [hr] at h1; cases h1
  · refine .inr ⟨hr', fun ys t hr hy e => ?_⟩
    obtain ⟨hy1, hy2⟩ := hy
    have e' : bl r0.left = numZ (ys.length : Int) ++ (ys.flatMap f ++ t) := by rw [e, rowL, List.append_assoc]; rfl
    rcases hi with ⟨i1, i2, i3, i4⟩ | ⟨i1, i2⟩
    · rw [i4] at e'
      obtain ⟨e1, e2⟩ := tells_in (most := most) (by omega) _ _ _ _ i3 ⟨by omega, hy1⟩ e'
      exact h2 ys t i1 (by omega) hy2 e2
    · exact i2 _ _ hr ⟨by omega, hy1⟩ e'
end
end Go.Proofs.YtfpjdmplepepjaaGreat

/-! WBuild: A builder is written to: what lies apart from it is as it was. -/
namespace Go.Proofs.YtfpjdmplepepjaaGreat
open Go.RowKit

/-- Block y is neither the builder's nor its row's. -/
def Apart (b y : Nat) (w : World) : Prop := y ≠ b ∧ ∀ v, w.cell? ⟨b, 1, none⟩ = some v → v.ownBlock ≠ some y
theorem apart_of {B b y : Nat} {bs : List Value} {w0 w : World} (h : Lib.IsBuilder 92 5 B b bs w0) (hy : w0.heap.size ≤ y) (hb : Below w0.heap.size w0 w) : Apart b y w := by
  have key : ∀ p, Lib.BuilderAt 92 5 B b p bs w0 → Apart b y w := by
    rintro p ⟨h1, v, h2, h3, h5⟩
    have hl := lt_of_block h2
    refine ⟨by omega, fun u hu e => ?_⟩
    rw [hb.cell (p := ⟨b, 1, none⟩) hl, Lib.cell_of_heap h2] at hu
    obtain rfl : v = u := by simpa using hu
    have := (World.ownsRow.lt h3 y e).2
    omega
  exact h.elim (key _) (key _)
theorem bcheck_keeps (B b : Nat) (bs : List Value) (w : World) (h : Lib.IsBuilder 92 5 B b bs w) :
    Calls Tryz.prog 87 #[.pointer (some ⟨b, 0, none⟩)] w fun e w' => e = .returned (.tuple #[]) ∧ (Lib.BuilderAt 92 5 B b (.pointer (some ⟨b, 0, none⟩)) bs w' ∧ Below B w w' ∧ w'.cell? ⟨b, 1, none⟩ = w.cell? ⟨b, 1, none⟩ ∧ ∀ k, k ≠ b → w'.heap[k]? = w.heap[k]?) := by
  rcases h with h | h
  · refine (bcheck_fresh b w h.cell0 h.shape h.frozen0).mono ?_
    rintro e w' ⟨rfl, rfl⟩
    exact ⟨rfl, h.used _, (Below.refl B w).setCell (p := ⟨b, 0, none⟩) h.1 _, World.cell?_setCell_other _ _ _ _ (by simp), fun k hk => Below.heap_setCell _ _ _ _ hk⟩
  · refine (bcheck_used b w h.cell0).mono ?_
    rintro e w' ⟨rfl, rfl⟩
    exact ⟨rfl, h, Below.refl B _, rfl, fun _ _ => rfl⟩

set_option maxHeartbeats 2000000 in
set_option maxRecDepth 100000 in
theorem bwrite_keeps (B b : Nat) (l : List UInt8) (s : ByteArray) (w : World) (h : Lib.IsBuilder 92 5 B b (Lib.byteCells l) w) (hlen : l.length + s.size ≤ 140737488355328) (hBw : B ≤ w.heap.size) (y : Nat) (hy : Hid (Apart b y w)) (hyl : y < w.heap.size) :
    Calls Tryz.prog 58 #[.pointer (some ⟨b, 0, none⟩), .string s] w fun e w' => e = .returned (.tuple #[.int .i64 s.size, .nilIface]) ∧ (Lib.IsBuilder 92 5 B b (Lib.byteCells (l ++ bl s)) w' ∧ Below B w w' ∧ w'.heap[y]? = w.heap[y]?) := by
  obtain ⟨i0, hi, hz0, hz1, hz2⟩ := info_parts infoByte
  have e240 : ∀ args w, (callFunc 87 args).run Tryz.prog w = .ok (.enter 87 args) w := enters_of Tryz.func87 (by kernel_rfl) rfl
  have hbs : (Lib.byteCells l).length = l.length := Lib.byteCells_length l
  obtain ⟨bs, hbs2⟩ := nm (Lib.byteCells l)
  rw [← hbs2.out] at h hbs
  go_enter Tryz.func58, Tryz.ntmps58
  go_wp2_with (go_at_call 87; refine (bcheck_keeps B b bs _ h).mono ?_)
  rintro e w1 ⟨rfl, h1, hb1, hc, hk⟩
  have HC1 := Lib.hid hc
  have HK1 := Lib.hid hk
  clear hc hk
  obtain ⟨hB, v, hbk, hown, hne⟩ := h1
  have c0 : w1.cell? ⟨b, 0, none⟩ = some (.pointer (some ⟨b, 0, none⟩)) := by rw [Lib.cell_of_heap hbk]; rfl
  have c1 : w1.cell? ⟨b, 1, none⟩ = some v := by rw [Lib.cell_of_heap hbk]; rfl
  go_wp2_with (at_builtin; refine Lib.wpList_append_own_string _ rfl _ _ 90 9 rfl B 5 i0 Tryz.underlying90 Tryz.underlying9 hi hz0 hz1 hz2 _ _ _ rfl hown s rfl ?c3 ?c4 ?c5 ?_)
  case c3 => unfold maxLen; omega
  case c4 => omega
  case c5 => have := hb1.size; omega
  intro v' w2 hown' hgrow _
  have hlt : b < w1.heap.size := lt_of_block hbk
  have hb2 : w2.heap[b]? = some (.cells #[.pointer (some ⟨b, 0, none⟩), v] 92 (0, 0)) := by
    rw [hgrow.block b hlt (fun e => hne e.symm)]
    exact hbk
  have d0 : w2.cell? ⟨b, 0, none⟩ = some (.pointer (some ⟨b, 0, none⟩)) := by rw [Lib.cell_of_heap hb2]; rfl
  have d1 : w2.cell? ⟨b, 1, none⟩ = some v := by rw [Lib.cell_of_heap hb2]; rfl
  have f1 : w2.frozen? ⟨b, 1, none⟩ = false := Lib.frozen_of_heap hb2 1
  obtain ⟨ao, n', cap, rfl⟩ : ∃ ao n' cap, v' = .slice ao n' cap := by
    rcases hown'.2 with ⟨hv, _⟩ | ⟨g, cap, cur, hv, _⟩
    · exact ⟨_, _, _, hv⟩
    · exact ⟨_, _, _, hv⟩
  go_wp2
  go_ret2
  refine ⟨rfl, Or.inr ?_, ?_⟩
  · have := Lib.BuilderAt.put (T := 92) (e := 5) hB hb2 (bs' := bs ++ Lib.strCells s) (by simpa [Lib.strCells_length, hbs] using hown') (by decide)
    have e1 : bs ++ Lib.strCells s = Lib.byteCells (l ++ bl s) := by
      rw [hbs2.out, Lib.byteCells, Lib.byteCells, List.map_append]; rfl
    rw [← e1]
    exact this
  · refine ⟨(hb1.grown hgrow (by have := hb1.size; omega) (fun k hk => (hown.lt k hk).1)).setCell (p := ⟨b, 1, none⟩) hB _, ?_⟩
    obtain ⟨hy1, hy2⟩ := hy.out
    refine (Below.heap_setCell _ _ _ _ hy1).trans ?_
    rw [hgrow.block y (Nat.lt_of_lt_of_le hyl hb1.size) (fun e => hy2 v (by rw [← HC1.out]; exact c1) e.symm)]
    exact HK1.out y hy1
end Go.Proofs.YtfpjdmplepepjaaGreat

/-! OwnE: Rows of structs of any few cells that a call owns; append onto them. -/
namespace Go.Proofs.YtfpjdmplepepjaaGreat
open Go.RowKit Go.WideShapes

/-- All rows' cells, one row behind another. -/
def flatE {α : Type} (enc : α → List Value) (xs : List α) : List Value := xs.flatMap enc
/-- Each row has k cells, each of them one cell. -/
structure EncOk {α : Type} (enc : α → List Value) (k : Nat) : Prop where
  pos : 0 < k
  len : ∀ x, (enc x).length = k
  one : ∀ x, ∀ u ∈ enc x, u.oneCell' = true
section
variable {α : Type} {enc : α → List Value} {k : Nat}
theorem EncOk.flat (h : EncOk enc k) : ∀ xs : List α, (flatE enc xs).length = xs.length * k
  | [] => by simp [flatE]
  | x :: xs => by
    show (enc x ++ flatE enc xs).length = _
    rw [List.length_append, h.len, h.flat xs, List.length_cons, Nat.add_mul, Nat.one_mul, Nat.add_comm]
theorem flatE_append (xs ys : List α) : flatE enc (xs ++ ys) = flatE enc xs ++ flatE enc ys := by simp [flatE]
theorem flatE_one (x : α) : flatE enc [x] = enc x := by simp [flatE]
theorem EncOk.flat_one (h : EncOk enc k) (xs : List α) : ∀ u ∈ flatE enc xs, u.oneCell' = true := by
  intro u hu
  obtain ⟨x, _, hx⟩ := List.mem_flatMap.1 hu
  exact h.one x u hx
theorem EncOk.get (h : EncOk enc k) : ∀ (xs : List α) (j : Nat) (x : α) (c : Nat) (u : Value), xs[j]? = some x → (enc x)[c]? = some u → (flatE enc xs)[j * k + c]? = some u
  | [], j, x, c, u, h1, _ => by simp at h1
  | y :: ys, 0, x, c, u, h1, h2 => by
    obtain rfl : y = x := by simpa using h1
    show (enc y ++ flatE enc ys)[0 * k + c]? = _
    rw [Nat.zero_mul, Nat.zero_add]
    have hc : c < (enc y).length := by
      rcases Nat.lt_or_ge c (enc y).length with g | g
      · exact g
      · rw [List.getElem?_eq_none g] at h2; cases h2
    rw [List.getElem?_append_left hc]; exact h2
  | y :: ys, j + 1, x, c, u, h1, h2 => by
    have := h.get ys j x c u (by simpa using h1) h2
    show (enc y ++ flatE enc ys)[(j + 1) * k + c]? = _
    rw [List.getElem?_append_right (by rw [h.len, Nat.add_mul, Nat.one_mul]; omega), h.len, Nat.add_mul, Nat.one_mul, show j * k + k + c - k = j * k + c from by omega]
    exact this
theorem EncOk.at (h : EncOk enc k) : ∀ (xs : List α) (i : Nat) (u : Value), (flatE enc xs)[i]? = some u → ∃ x, xs[i / k]? = some x ∧ (enc x)[i % k]? = some u
  | [], i, u, h1 => by simp [flatE] at h1
  | y :: ys, i, u, h1 => by
    change (enc y ++ flatE enc ys)[i]? = _ at h1
    have hp := h.pos
    rcases Nat.lt_or_ge i k with g | g
    · rw [List.getElem?_append_left (by rw [h.len]; exact g)] at h1
      exact ⟨y, by rw [Nat.div_eq_of_lt g]; rfl, by rw [Nat.mod_eq_of_lt g]; exact h1⟩
    · rw [List.getElem?_append_right (by rw [h.len]; exact g), h.len] at h1
      obtain ⟨x, g1, g2⟩ := h.at ys (i - k) u h1
      refine ⟨x, ?_, ?_⟩
      · rw [Nat.div_eq_sub_div hp g]
        simpa using g1
      · rw [Nat.mod_eq_sub_mod g]; exact g2
theorem SlE.ofBlk (h : EncOk enc k) {w : World} {b : Nat} {t : TypeId} {xs : List α} (hb : Blk w b (flatE enc xs).toArray t) : SlE enc k w (some ⟨b, 0, none⟩) xs := by
  intro i _
  refine ⟨b, 0, rfl, hb.lt, fun j x hj c u hu => ?_⟩
  rw [hb.cell, Nat.zero_add]
  simpa using h.get xs j x c u hj hu
theorem SlE.none_len {w : World} {xs : List α} (h : SlE enc k w none xs) : xs.length = 0 := by
  rcases Nat.eq_zero_or_pos xs.length with h0 | h0
  · exact h0
  · obtain ⟨b, off, h1, _⟩ := h 0 h0; cases h1
/-- The cells of a row, as an append wants them. -/
theorem SlE.news (h : EncOk enc k) {w : World} {a : Addr} {xs : List α} (hs : SlE enc k w (some a) xs) : ∀ j u, (flatE enc xs)[j]? = some u → w.cell? (a.add j) = some u := by
  intro j u hj
  obtain ⟨x, g1, g2⟩ := h.at xs j u hj
  have hlt : j / k < xs.length := by
    rcases Nat.lt_or_ge (j / k) xs.length with g | g
    · exact g
    · rw [List.getElem?_eq_none g] at g1; cases g1
  obtain ⟨b, off, e, _, hc⟩ := hs (j / k) hlt
  cases e
  rw [add_plain]
  have := hc _ x g1 _ u g2
  rwa [Nat.add_assoc, Nat.div_add_mod'] at this

/-- A row that a call owns. -/
def OwnE (enc : α → List Value) (k : Nat) (w : World) (base : Nat) (t : TypeId) (v : Value) (xs : List α) : Prop := w.ownsRow base t k v xs.length (flatE enc xs)
theorem OwnE.nil (w : World) (base : Nat) (t : TypeId) : OwnE enc k w base t (.slice none 0 0) [] := ⟨by simp [flatE], .inl ⟨rfl, rfl⟩⟩
theorem OwnE.sl (h : EncOk enc k) {w : World} {base : Nat} {t : TypeId} {v : Value} {xs : List α} (ho : OwnE enc k w base t v xs) :
    ∃ ao cap, v = .slice ao xs.length cap ∧ xs.length ≤ cap ∧ cap ≤ maxLen ∧ SlE enc k w ao xs ∧ (ao = none → cap = 0) ∧ ∀ a, ao = some a → base ≤ a.block := by
  rcases ho.2 with ⟨rfl, h0⟩ | ⟨g, cap, cur, rfl, hb, hg, hc, hm, _, ht⟩
  · exact ⟨none, 0, by rw [h0], by omega, Nat.zero_le _, (fun i hi => by omega), fun _ => rfl, fun a ha => by cases ha⟩
  · refine ⟨some ⟨g, 0, none⟩, cap, rfl, hc, hm, (fun i _ => ⟨g, 0, rfl, lt_of_block hg, fun j x hj c u hu => ?_⟩), fun e => (by cases e), fun a ha => by cases ha; exact hb⟩
    have e1 := h.get xs j x c u hj hu
    have hlt : j * k + c < xs.length * k := by
      rcases Nat.lt_or_ge (j * k + c) (xs.length * k) with g | g
      · exact g
      · rw [List.getElem?_eq_none (by rw [h.flat]; exact g)] at e1; cases e1
    rw [← ht, List.getElem?_take, if_pos hlt] at e1
    rw [Nat.zero_add]
    simp only [Array.getElem?_toList] at e1
    simp [World.cell?, hg, e1]
theorem OwnE.alloc {w : World} {base : Nat} {t : TypeId} {v : Value} {xs : List α} (h : OwnE enc k w base t v xs) (o : Obj) : OwnE enc k (w.alloc o) base t v xs := World.ownsRow.alloc h o
theorem OwnE.below {w w' : World} {base : Nat} {t : TypeId} {v : Value} {xs : List α} (h : OwnE enc k w base t v xs) (hb : Below w.heap.size w w') : OwnE enc k w' base t v xs := own_below h hb
theorem OwnE.drew {w : World} {base : Nat} {t : TypeId} {v : Value} {xs : List α} (h : OwnE enc k w base t v xs) : OwnE enc k w.drew base t v xs := h
theorem OwnE.keptBy {w w' : World} {base : Nat} {t : TypeId} {v : Value} {xs : List α} {row : Option Nat} (h : OwnE enc k w base t v xs) (hg : w.grownBy w' row) (hr : v.ownBlock = none ∨ v.ownBlock ≠ row) : OwnE enc k w' base t v xs := World.ownsRow.kept h hg hr
theorem OwnE.kept {b base : Nat} {w w' : World} {t : TypeId} {v : Value} {xs : List α} (h : OwnE enc k w base t v xs) (hk : Kept b w w') (hb : b < base) : OwnE enc k w' base t v xs := by
  have hg : w.grownBy w' (some b) := ⟨hk.os, hk.tape, hk.output, hk.size, fun i hi hne => hk.block i hi (fun e => hne (by rw [e]))⟩
  refine h.keptBy hg ?_
  cases hv : v.ownBlock with
  | none => exact .inl rfl
  | some g =>
    right
    intro e
    have := (World.ownsRow.lt h g hv).1
    cases e
    omega
theorem OwnE.grownK {b base : Nat} {w a c : World} {t : TypeId} {v : Value} {xs : List α} (h : OwnE enc k a base t v xs) (hk : Kept b w a) (hb : w.heap.size ≤ base) (hg : a.grownBy c v.ownBlock) : Kept b w c :=
  ⟨hg.os.trans hk.os, hg.tape.trans hk.tape, hg.output.trans hk.output, Nat.le_trans hk.size hg.size, fun i hi hne => by
    rw [hg.block i (Nat.lt_of_lt_of_le hi hk.size) (by intro e; have := (World.ownsRow.lt h i e.symm).1; omega)]
    exact hk.block i hi hne⟩
theorem OwnE.grownB {base : Nat} {w a b : World} {t : TypeId} {v : Value} {xs : List α} (hown : OwnE enc k a base t v xs) (hB : Below w.heap.size w a) (hb : w.heap.size ≤ base) (hg : a.grownBy b v.ownBlock) : Below w.heap.size w b :=
  hB.grown hg hB.size (fun i hi => Nat.le_trans hb (World.ownsRow.lt hown i hi).1)
theorem OwnE.blk {a c : World} {base i : Nat} {cs : Array Value} {t t' : TypeId} {v : Value} {xs : List α} (h : OwnE enc k a base t v xs) (hb : Blk a i cs t') (hk : i < base) (hg : a.grownBy c v.ownBlock) : Blk c i cs t' :=
  (hg.block i hb.lt (by intro e; have := (World.ownsRow.lt h i e.symm).1; omega)).trans hb

/-- append of rows onto a row that a call owns. -/
theorem app_E (h : EncOk enc k) {st t : TypeId} {z : Value} {bytes : Nat} (hu : Tryz.prog.underlying st = some (.slice t)) (hinfo : (Tryz.prog.info? t).map (fun i => (i.zero, i.size, i.bytes)) = some (some z, k, bytes)) (hz : z.cells.size = k) (hby : bytes ≤ 64)
    {w : World} {ops : Array Oper} {rest : List Oper} {o : Oper} {a : Act} {Q : Exit → Act → World → Prop} (hgd : o.guard = none) (s x : Operand)
    (ho : o.op = .call { callee := .builtin .append, args := #[s, x], argTypes := #[st, st] })
    (base : Nat) (v : Value) (xs : List α) (hs : a.eval s = v) (hown : OwnE enc k w base t v xs)
    (ao : Option Addr) (m c : Nat) (ys : List α) (hx : a.eval x = .slice ao m c) (hq : ys.length = m) (hc : ao = none → c = 0) (hsl : SlE enc k w ao ys) (hb : xs.length + m ≤ 1000000000) (hbase : base ≤ w.heap.size)
    (hn : ∀ v' w', OwnE enc k w' base t v' (xs ++ ys) → w.grownBy w' v.ownBlock → wpList Tryz.prog ops Q rest (a.put o.dst v') w') : wpList Tryz.prog ops Q (o :: rest) a w := by
  obtain ⟨i0, hi, hz0, hz1, hz2⟩ := info_parts hinfo
  cases ao with
  | none =>
    have h0 := hsl.none_len
    obtain rfl := hc rfl
    obtain rfl : m = 0 := hq.symm.trans h0
    obtain rfl := List.length_eq_zero_iff.1 h0
    refine wpList_append_own_none hgd s x _ ho base t i0 k hu hi v xs.length (flatE enc xs) hs hown hx ?_
    exact hn v w (by rw [List.append_nil]; exact hown) ⟨rfl, rfl, rfl, Nat.le_refl _, fun _ _ _ => rfl⟩
  | some ad =>
    have h2 : (xs.length + m) * bytes ≤ 140737488355328 := Nat.le_trans (Nat.mul_le_mul hb hby) (by decide)
    refine wpList_append_own w hgd s x _ ho base t i0 _ k bytes hu hi hz0 hz1 hz2 hz h.pos v xs.length (flatE enc xs) hs hown ad m c (flatE enc ys) hx (by rw [h.flat, hq]) (hsl.news h) (h.flat_one ys) (by unfold maxLen; omega) h2 hbase ?_
    intro v' w' h1 h2 _
    refine hn v' w' ?_ h2
    show w'.ownsRow _ _ _ _ _ _
    rw [flatE_append, List.length_append, hq]
    exact h1
end
end Go.Proofs.YtfpjdmplepepjaaGreat

/-! WRead: Names and rows of names are read: the program's. -/
namespace Go.Proofs.YtfpjdmplepepjaaGreat
open Go.RowKit Go.Sort
theorem Rd.num_torn (r : Rd) (h : r.num.1.torn = true) : r.num.2 = 0 := by
  unfold Rd.num at h ⊢
  split at h
  · rename_i ht; rw [if_pos ht]
  · rename_i ht
    rw [if_neg ht]
    split at h
    · cases h
    · rfl
theorem Rd.int_torn0 (r : Rd) (m : Int) (h : (r.int m).1.torn = true) : (r.int m).2 = 0 := by
  unfold Rd.int at h ⊢
  split at h
  · rename_i hc; rw [if_pos hc]
  · rename_i hc; rw [if_neg hc]; exact r.num_torn h

theorem infoD : (Tryz.prog.info? 33).map (fun i => (i.zero, i.size, i.bytes)) = some (some (.agg #[.int .i64 0, .int .i64 0]), 2, 16) := by kernel_rfl

theorem SlP.newsA {w : World} {a : Addr} {ps : List (Int × Int)} (h : SlP w (some a) ps) : ∀ j u, (flatD ps)[j]? = some u → w.cell? (a.add j) = some u := by
  intro j u hj
  by_cases h0 : ps.length = 0
  · rw [List.length_eq_zero_iff.1 h0] at hj; simp [flatD] at hj
  · obtain ⟨b, off, h1, _⟩ := h 0 (by omega)
    cases h1
    exact h.news j u hj

theorem SlP.ofBlk {w : World} {b : Nat} {t : TypeId} {ps : List (Int × Int)} (h : Blk w b (flatD ps).toArray t) : SlP w (some ⟨b, 0, none⟩) ps := by
  intro k _
  refine ⟨b, 0, rfl, h.lt, fun j p hj => ?_⟩
  obtain ⟨g0, g1⟩ := flatD_get ps j p hj
  rw [h.cell, h.cell, Nat.zero_add]
  simp only [List.getElem?_toArray]
  exact ⟨g0, g1⟩
theorem app_pairs {w : World} {ops : Array Oper} {rest : List Oper} {o : Oper} {a : Act} {Q : Exit → Act → World → Prop} (hgd : o.guard = none) (s x : Operand)
    (ho : o.op = .call { callee := .builtin .append, args := #[s, x], argTypes := #[25, 25] })
    (base : Nat) (v : Value) (ps : List (Int × Int)) (hs : a.eval s = v) (hown : OwnP w base 33 v ps)
    (ao : Option Addr) (m c : Nat) (qs : List (Int × Int)) (hx : a.eval x = .slice ao m c) (hq : qs.length = m) (hc : ao = none → c = 0) (hsl : SlP w ao qs) (hb : ps.length + m ≤ 1000000000) (hbase : base ≤ w.heap.size)
    (h : ∀ v' w', OwnP w' base 33 v' (ps ++ qs) → w.grownBy w' v.ownBlock → wpList Tryz.prog ops Q rest (a.put o.dst v') w') : wpList Tryz.prog ops Q (o :: rest) a w := by
  obtain ⟨i0, hi, hz0, hz1, hz2⟩ := info_parts infoD
  cases ao with
  | none =>
    have h0 := hsl.none_len
    obtain rfl := hc rfl
    obtain rfl : m = 0 := hq.symm.trans h0
    obtain rfl := List.length_eq_zero_iff.1 h0
    refine wpList_append_own_none hgd s x _ ho base 33 i0 2 Tryz.underlying25 hi v ps.length (flatD ps) hs hown hx ?_
    refine h v w (by rw [List.append_nil]; exact hown) ⟨rfl, rfl, rfl, Nat.le_refl _, fun _ _ _ => rfl⟩
  | some ad =>
    refine wpList_append_own w hgd s x _ ho base 33 i0 _ 2 16 Tryz.underlying25 hi hz0 hz1 hz2 rfl (by decide) v ps.length (flatD ps) hs hown ad m c (flatD qs) hx (by rw [flatD_length, hq]) hsl.newsA (flatD_cell qs) (by unfold maxLen; omega) (by omega) hbase ?_
    intro v' w' h1 h2 _
    refine h v' w' ?_ h2
    show w'.ownsRow _ _ _ _ _ _
    rw [flatD_append, List.length_append, hq]
    exact h1
theorem OwnP.cap0 {w : World} {base : Nat} {t : TypeId} {ao : Option Addr} {n cap : Nat} {ps : List (Int × Int)} (h : OwnP w base t (.slice ao n cap) ps) : ao = none → cap = 0 := by
  rintro rfl
  rcases h.2 with ⟨h1, _⟩ | ⟨g, cap', cur, h1, _⟩
  · cases h1; rfl
  · cases h1


/-- A name is read. -/
def Rd.dot (r : Rd) : Rd × (Int × Int) :=
  if ((r.int 1099511627776).1.int 1099511627776).1.torn = true ∨ okD (r.int 1099511627776).2 ((r.int 1099511627776).1.int 1099511627776).2 = false then (⟨((r.int 1099511627776).1.int 1099511627776).1.left, true⟩, (0, 0))
  else (((r.int 1099511627776).1.int 1099511627776).1, ((r.int 1099511627776).2, ((r.int 1099511627776).1.int 1099511627776).2))

set_option maxRecDepth 100000 in
set_option maxHeartbeats 400000 in
theorem torn_any (b : Nat) (r : Rd) (w : World) (hr : IsRd w b r) (hs : r.left.size ≤ 4611686018427387904) :
    Calls Tryz.prog 77 #[.pointer (some ⟨b, 0, none⟩)] w fun e w' => e = .returned (.tuple #[]) ∧ IsRd w' b (r.int (-1)).1 ∧ Kept b w w' := by
  go_enter Tryz.func77, Tryz.ntmps77
  go_wp2_with fail
  refine (rint_any b r (-1) _ hr hs (by decide)).mono ?_; rintro e w1 ⟨rfl, h1, h2⟩
  go_wp2_with fail
  go_end0
  exact ⟨rfl, h1, h2⟩
theorem Rd.int_neg (r : Rd) : (r.int (-1)).1.torn = true ∧ (r.int (-1)).1.left.size ≤ r.left.size := by
  unfold Rd.int
  rw [if_pos (.inl (by decide))]
  exact ⟨rfl, r.num_lt.2⟩

theorem fine_is' (T : Bool) (b : Nat) (r : Rd) (hT : Hid (T = r.torn)) (w : World) (hr : IsRd w b r) :
    Calls Tryz.prog 45 #[.pointer (some ⟨b, 0, none⟩)] w fun e w' => e = .returned (.bool (!T)) ∧ w = w' := by rw [hT.out]; exact fine_any b r w hr

/-- What dot.Read tells. -/
def DotTells (b : Nat) (r : Rd) (w : World) (e : Ending) (w' : World) : Prop :=
  e = .returned (.agg #[.int .i64 r.dot.2.1, .int .i64 r.dot.2.2]) ∧ (∃ r', IsRd w' b r' ∧ r'.torn = r.dot.1.torn ∧ (r.dot.1.torn = false → r' = r.dot.1) ∧ r'.left.size ≤ r.left.size) ∧ Kept b w w'

set_option maxRecDepth 100000 in
set_option maxHeartbeats 2000000 in
theorem rdot_any (b : Nat) (r : Rd) (w : World) (hr : IsRd w b r) (hs : r.left.size ≤ 1000000) :
    Calls Tryz.prog 48 #[.pointer (some ⟨b, 0, none⟩)] w (DotTells b r w) := by
  have hbl := hr.lt
  obtain ⟨i1, i2, i3⟩ := r.int_lt 1099511627776
  obtain ⟨j1, j2, j3⟩ := (r.int 1099511627776).1.int_lt 1099511627776
  obtain ⟨d, hd⟩ := nm r.dot
  have hd2 := hd.out
  unfold Rd.dot at hd2
  obtain ⟨q1, hq1⟩ := nm (r.int 1099511627776).1
  obtain ⟨n1, hn1⟩ := nm (r.int 1099511627776).2
  rw [← hq1.out] at hd2 i2 j1 j2 j3
  rw [← hn1.out] at hd2 i1 i3
  obtain ⟨q2, hq2⟩ := nm (q1.int 1099511627776).1
  obtain ⟨n2, hn2⟩ := nm (q1.int 1099511627776).2
  rw [← hq2.out] at hd2 j2
  rw [← hn2.out] at hd2 j1 j3
  have hD := Lib.hid hd2
  clear hd2
  have n1b : n1 ≤ 1099511627776 := by omega
  have n2b : n2 ≤ 1099511627776 := by omega
  obtain ⟨T, hT⟩ := nm q2.torn
  obtain ⟨C, hC⟩ := nm (okD (n1 : Int) (n2 : Int))
  have fin : ∀ (w' : World) (r' : Rd) (x y : Int), d.2 = (x, y) → IsRd w' b r' → r'.torn = d.1.torn → (d.1.torn = false → r' = d.1) → r'.left.size ≤ r.left.size → Kept b w w' → DotTells b r w (.returned (.agg #[.int .i64 x, .int .i64 y])) w' := by
    intro w' r' x y e1 h1 h2 h3 h4 h5
    refine ⟨by rw [← hd.out, e1], ⟨r', h1, ?_, ?_, h4⟩, h5⟩
    · rw [← hd.out]; exact h2
    · rw [← hd.out]; exact h3
  have FIN := Lib.hid fin
  clear fin i3 j3
  have bR0 : Blk (w.alloc (.cells #[.int .i64 0, .int .i64 0] 33)) w.heap.size #[.int .i64 0, .int .i64 0] 33 := Blk.new _ _ _
  have k0 : Kept b w (w.alloc (.cells #[.int .i64 0, .int .i64 0] 33)) := (Kept.refl b w).alloc _
  have h0 : IsRd (w.alloc (.cells #[.int .i64 0, .int .i64 0] 33)) b r := hr.alloc _
  have s0 : (w.alloc (.cells #[.int .i64 0, .int .i64 0] 33)).heap.size = w.heap.size + 1 := by simp
  obtain ⟨w0, hw0⟩ := nm (w.alloc (.cells #[.int .i64 0, .int .i64 0] 33))
  rw [← hw0.out] at bR0 k0 h0 s0
  obtain ⟨R, hR⟩ := nm w.heap.size
  rw [← hR.out] at bR0 s0 hbl
  go_enter Tryz.func48, Tryz.ntmps48
  go_wp2_with fail
  rw [← hR.out, ← hw0.out]
  refine (rint_any b r 1099511627776 _ h0 (by omega) (by decide)).mono ?_; rintro e w1 ⟨rfl, h1, k1⟩
  rw [← hq1.out] at h1
  rw [← hn1.out]
  have bR1 := k1.blk bR0 (by omega)
  have k01 := k0.trans k1
  have s1 := k1.size
  have bD1 : Blk (w1.alloc (.cells #[.int .i64 (n1 : Int), .int .i64 0] 33)) w1.heap.size #[.int .i64 (n1 : Int), .int .i64 0] 33 := Blk.new _ _ _
  have bR2 := bR1.alloc (.cells #[.int .i64 (n1 : Int), .int .i64 0] 33)
  have h1a : IsRd (w1.alloc (.cells #[.int .i64 (n1 : Int), .int .i64 0] 33)) b q1 := h1.alloc _
  have k02 := k01.alloc (.cells #[.int .i64 (n1 : Int), .int .i64 0] 33)
  clear bR0 k0 h0 k1 k01 bR1 h1
  go_wp2_with fail
  obtain ⟨D, hDn⟩ := nm w1.heap.size
  obtain ⟨w2, hw2⟩ := nm (w1.alloc (.cells #[.int .i64 (n1 : Int), .int .i64 0] 33))
  rw [← hw2.out] at bD1 bR2 h1a k02 ⊢
  rw [← hDn.out] at bD1 s1 ⊢
  refine (rint_any b q1 1099511627776 _ h1a (by omega) (by decide)).mono ?_; rintro e w3 ⟨rfl, h3, k3⟩
  rw [← hq2.out] at h3
  rw [← hn2.out]
  have bD3 := k3.blk bD1 (by omega)
  have bR3 := k3.blk bR2 (by omega)
  have k03 := k02.trans k3
  have cD : w3.cell? ⟨D, 1, none⟩ = some (.int .i64 0) := bD3.cell 1
  have fD : w3.frozen? ⟨D, 1, none⟩ = false := bD3.free 1
  have bD4 : Blk (w3.setCell ⟨D, 1, none⟩ (.int .i64 (n2 : Int))) D #[.int .i64 (n1 : Int), .int .i64 (n2 : Int)] 33 := bD3.set 1 _
  have bR4 : Blk (w3.setCell ⟨D, 1, none⟩ (.int .i64 (n2 : Int))) R #[.int .i64 0, .int .i64 0] 33 := bR3.setOther (by show R ≠ D; omega) _
  have h4 : IsRd (w3.setCell ⟨D, 1, none⟩ (.int .i64 (n2 : Int))) b q2 := Blk.setOther h3 (by show b ≠ D; omega) _
  have k04 : Kept b w (w3.setCell ⟨D, 1, none⟩ (.int .i64 (n2 : Int))) := k03.setNew (by show w.heap.size ≤ D; rw [← hR.out]; omega) _
  clear bD1 bR2 h1a k02 k3 bD3 bR3 k03 h3
  go_wp2_with fail
  clear cD fD
  obtain ⟨w4, hw4⟩ := nm (w3.setCell ⟨D, 1, none⟩ (.int .i64 (n2 : Int)))
  rw [← hw4.out] at bD4 bR4 h4 k04 ⊢
  refine (fine_is' T b q2 hT w4 h4).mono ?_; rintro e w5 ⟨rfl, rfl⟩
  have FR : Hid (∀ w' : World, Kept b w4 w' → Blk w' R #[.int .i64 0, .int .i64 0] 33) := fun w' h => h.blk bR4 (by omega)
  have hdb : D < w4.heap.size := bD4.lt
  have hrb : R < w4.heap.size := bR4.lt
  have hb4 : b < w4.heap.size := h4.lt
  cases T
  rotate_left
  · have e1 : d = (⟨q2.left, true⟩, (0, 0)) := by rw [hD.out, if_pos (.inl hT.out.symm)]
    have E1 := Lib.hid e1
    clear e1
    go_wp2_with fail
    refine (torn_any b q2 _ h4 (by omega)).mono ?_; rintro e w6 ⟨rfl, h6, k6⟩
    have bR6 := FR.out _ k6
    have c0 : w6.cell? ⟨R, 0, none⟩ = some (.int .i64 0) := bR6.cell 0
    have c1 : w6.cell? ⟨R, 1, none⟩ = some (.int .i64 0) := bR6.cell 1
    have f0 : w6.frozen? ⟨R, 0, none⟩ = false := bR6.free 0
    have f1 : w6.frozen? ⟨R, 1, none⟩ = false := bR6.free 1
    obtain ⟨t1, t2⟩ := q2.int_neg
    go_wp2_with fail
    refine bodyPost_ret (v := .agg #[.int .i64 0, .int .i64 0]) (by simp [results, Tryz.results48, go_sem, c0, c1]) rfl ?_
    refine FIN.out _ (q2.int (-1)).1 0 0 (by rw [E1.out]) (Blk.setOther (Blk.setOther h6 (by show b ≠ R; omega) _) (by show b ≠ R; omega) _) (by rw [E1.out, t1]) (by rw [E1.out]; intro h; cases h) (by omega) ?_
    exact ((k04.trans k6).setNew (by show w.heap.size ≤ R; rw [← hR.out]; omega) _).setNew (by show w.heap.size ≤ R; rw [← hR.out]; omega) _
  have g0 : w4.cell? ⟨D, 0, none⟩ = some (.int .i64 (n1 : Int)) := bD4.cell 0
  have g1 : w4.cell? ⟨D, 1, none⟩ = some (.int .i64 (n2 : Int)) := bD4.cell 1
  go_wp2_with fail
  refine (check_any (n1 : Int) (n2 : Int) C hC _).mono ?_; rintro e w5 ⟨rfl, hB5⟩
  clear g0 g1
  have h5 : IsRd w5 b q2 := Blk.below h4 hB5 hb4
  have bD5 := bD4.below hB5 hdb
  have bR5 := bR4.below hB5 hrb
  have k05 := k04.trans (Kept.ofBelow hB5)
  have c0 : w5.cell? ⟨R, 0, none⟩ = some (.int .i64 0) := bR5.cell 0
  have c1 : w5.cell? ⟨R, 1, none⟩ = some (.int .i64 0) := bR5.cell 1
  have f0 : w5.frozen? ⟨R, 0, none⟩ = false := bR5.free 0
  have f1 : w5.frozen? ⟨R, 1, none⟩ = false := bR5.free 1
  have g0 : w5.cell? ⟨D, 0, none⟩ = some (.int .i64 (n1 : Int)) := bD5.cell 0
  have g1 : w5.cell? ⟨D, 1, none⟩ = some (.int .i64 (n2 : Int)) := bD5.cell 1
  cases C
  · have e1 : d = (⟨q2.left, true⟩, (0, 0)) := by rw [hD.out, if_pos (.inr hC.out.symm)]
    have E1 := Lib.hid e1
    clear e1 c0 c1 f0 f1 g0 g1
    go_wp2_with fail
    refine (torn_any b q2 _ h5 (by omega)).mono ?_; rintro e w6 ⟨rfl, h6, k6⟩
    have bR6 := k6.blk bR5 (by omega)
    have c0 : w6.cell? ⟨R, 0, none⟩ = some (.int .i64 0) := bR6.cell 0
    have c1 : w6.cell? ⟨R, 1, none⟩ = some (.int .i64 0) := bR6.cell 1
    have f0 : w6.frozen? ⟨R, 0, none⟩ = false := bR6.free 0
    have f1 : w6.frozen? ⟨R, 1, none⟩ = false := bR6.free 1
    obtain ⟨t1, t2⟩ := q2.int_neg
    go_wp2_with fail
    refine bodyPost_ret (v := .agg #[.int .i64 0, .int .i64 0]) (by simp [results, Tryz.results48, go_sem, c0, c1]) rfl ?_
    refine FIN.out _ (q2.int (-1)).1 0 0 (by rw [E1.out]) (Blk.setOther (Blk.setOther h6 (by show b ≠ R; omega) _) (by show b ≠ R; omega) _) (by rw [E1.out, t1]) (by rw [E1.out]; intro h; cases h) (by omega) ?_
    exact ((k05.trans k6).setNew (by show w.heap.size ≤ R; rw [← hR.out]; omega) _).setNew (by show w.heap.size ≤ R; rw [← hR.out]; omega) _
  · have e1 : d = (q2, ((n1 : Int), (n2 : Int))) := by rw [hD.out, if_neg (by rw [← hT.out, ← hC.out]; simp)]
    have E1 := Lib.hid e1
    clear e1
    go_wp2_with fail
    refine bodyPost_ret (v := .agg #[.int .i64 (n1 : Int), .int .i64 (n2 : Int)]) (by simp [results, Tryz.results48, go_sem, c0, c1]) rfl ?_
    refine FIN.out _ q2 n1 n2 (by rw [E1.out]) (Blk.setOther (Blk.setOther h5 (by show b ≠ R; omega) _) (by show b ≠ R; omega) _) (by rw [E1.out]) (by rw [E1.out]; intro h; rfl) (by omega) ?_
    exact (k05.setNew (by show w.heap.size ≤ R; rw [← hR.out]; omega) _).setNew (by show w.heap.size ≤ R; rw [← hR.out]; omega) _


/-- So many names are read. -/
def Rd.dots : Nat → Rd → Rd × Option (List (Int × Int))
  | 0, r => (r, some [])
  | k + 1, r => if r.dot.1.torn then (r.dot.1, none) else ((Rd.dots k r.dot.1).1, (Rd.dots k r.dot.1).2.map (r.dot.2 :: ·))
/-- A row is read. -/
def Rd.row (r : Rd) (most : Int) : Rd × List (Int × Int) :=
  match Rd.dots (r.int most).2 (r.int most).1 with
  | (q, some l) => if q.torn = true ∨ ¬ Asc l then (⟨q.left, true⟩, []) else (q, l)
  | (q, none) => (⟨q.left, true⟩, [])

theorem Rd.dot_uses (r : Rd) (h : r.dot.1.torn = false) : r.torn = false ∧ r.dot.1.left.size + 1 ≤ r.left.size := by
  unfold Rd.dot at h ⊢
  split at h
  · cases h
  · rename_i hc
    rw [if_neg hc]
    simp only at h ⊢
    obtain ⟨h1, h2⟩ := Rd.int_uses _ _ h
    obtain ⟨h3, h4⟩ := Rd.int_uses _ _ h1
    exact ⟨h3, by omega⟩
theorem Rd.dot_in (r : Rd) : InD r.dot.2 := by
  unfold Rd.dot
  split
  · exact ⟨show (0 : Int) ≤ 9223372036854775807 by decide, show (0 : Int) ≤ 9223372036854775807 by decide⟩
  · have h1 := (r.int_lt 1099511627776).2.2
    have h2 := ((r.int 1099511627776).1.int_lt 1099511627776).2.2
    simp only
    exact ⟨by simp only; omega, by simp only; omega⟩

theorem Kept.own {b base : Nat} {w w' : World} {t : TypeId} {v : Value} {ps : List (Int × Int)} (hk : Kept b w w') (h : OwnP w base t v ps) (hb : b < base) : OwnP w' base t v ps := by
  have hg : w.grownBy w' (some b) := ⟨hk.os, hk.tape, hk.output, hk.size, fun k hk' hne => hk.block k hk' (fun e => hne (by rw [e]))⟩
  refine h.kept hg ?_
  cases hv : v.ownBlock with
  | none => exact .inl rfl
  | some g =>
    right
    intro e
    have := (World.ownsRow.lt h g hv).1
    cases e
    omega
theorem Kept.grownP {b base : Nat} {w a c : World} {t : TypeId} {v : Value} {ps : List (Int × Int)} (hk : Kept b w a) (h : OwnP a base t v ps) (hb : w.heap.size ≤ base) (hg : a.grownBy c v.ownBlock) : Kept b w c :=
  ⟨hg.os.trans hk.os, hg.tape.trans hk.tape, hg.output.trans hk.output, Nat.le_trans hk.size hg.size, fun k hk' hne => by
    rw [hg.block k (Nat.lt_of_lt_of_le hk' hk.size) (by intro e; have := (World.ownsRow.lt h k e.symm).1; omega)]
    exact hk.block k hk' hne⟩
theorem Blk.grownP {a c : World} {base k : Nat} {cs : Array Value} {t t' : TypeId} {v : Value} {ps : List (Int × Int)} (hb : Blk a k cs t') (h : OwnP a base t v ps) (hk : k < base) (hg : a.grownBy c v.ownBlock) : Blk c k cs t' :=
  (hg.block k hb.lt (by intro e; have := (World.ownsRow.lt h k e.symm).1; omega)).trans hb

theorem rises_is (ao : Option Addr) (ps : List (Int × Int)) (n cap : Nat) (hn : Hid (ps.length = n)) (hm : n ≤ 1000000000) (r : Bool) (hr : Hid (r = decide (Asc ps))) (w : World) (hs : SlP w ao ps) :
    Calls Tryz.prog 90 #[.slice ao n cap] w fun e w' => e = .returned (.bool r) ∧ Below w.heap.size w w' := rises_any ao ps n cap hn hm w hs r hr

/-- What dot.ReadRow tells. -/
def RowTells (b : Nat) (r : Rd) (most : Int) (w : World) (e : Ending) (w' : World) : Prop :=
  ∃ ao cap, e = .returned (.slice ao (r.row most).2.length cap) ∧ (SlP w' ao (r.row most).2 ∧ ∀ a, ao = some a → w.heap.size ≤ a.block) ∧ (∃ r', IsRd w' b r' ∧ r'.torn = (r.row most).1.torn ∧ ((r.row most).1.torn = false → r' = (r.row most).1) ∧ r'.left.size ≤ 1000000) ∧ Kept b w w'

set_option maxRecDepth 100000 in
set_option maxHeartbeats 4000000 in
theorem readrow_any (b : Nat) (r : Rd) (most : Int) (w : World) (hr : IsRd w b r) (hs : r.left.size ≤ 1000000) (hm : most ≤ 9223372036854775807) :
    Calls Tryz.prog 76 #[.pointer (some ⟨b, 0, none⟩), .int .i64 most] w (RowTells b r most w) := by
  have hbl := hr.lt
  obtain ⟨i1, i2, i3⟩ := r.int_lt most
  have iu := r.int_uses most
  obtain ⟨q, hq⟩ := nm (r.int most).1
  obtain ⟨n, hn⟩ := nm (r.int most).2
  obtain ⟨d, hd⟩ := nm (r.row most)
  have hd2 := hd.out
  unfold Rd.row at hd2
  rw [← hq.out, ← hn.out] at hd2
  rw [← hq.out] at i2 iu
  rw [← hn.out] at i1 i3
  have hn63 : n ≤ 9223372036854775807 := by omega
  have i4 : n ≠ 0 → q.torn = false := by
    intro h
    cases hqt : q.torn with
    | false => rfl
    | true =>
      exfalso; apply h
      rw [hn.out]
      exact r.int_torn0 most (by rw [← hq.out]; exact hqt)
  have HD := Lib.hid hd2
  have fin : ∀ (w' : World) (r' : Rd) (ao : Option Addr) (cap m : Nat), d.2.length = m → (SlP w' ao d.2 ∧ ∀ a, ao = some a → w.heap.size ≤ a.block) → IsRd w' b r' → r'.torn = d.1.torn → (d.1.torn = false → r' = d.1) → Kept b w w' → r'.left.size ≤ 1000000 → RowTells b r most w (.returned (.slice ao m cap)) w' := by
    intro w' r' ao cap m e1 hsl h1 h2 h3 h5 h6
    refine ⟨ao, cap, by rw [← hd.out, e1], by rw [← hd.out]; exact hsl, ⟨r', h1, ?_, ?_, h6⟩, h5⟩
    · rw [← hd.out]; exact h2
    · rw [← hd.out]; exact h3
  have FIN := Lib.hid fin
  have I4 := Lib.hid i4
  clear fin hd2 i4 i3
  go_enter Tryz.func76, Tryz.ntmps76
  go_wp2_with fail
  refine (rint_any b r most _ hr (by omega) hm).mono ?_; rintro e w1 ⟨rfl, h1, k1⟩
  rw [← hq.out] at h1
  rw [← hn.out]
  go_wp2_with fail
  go_loopw [5, 9] (fun v i wr => ∃ (k : Nat) (ri : Rd) (zs : List (Int × Int)), k ≤ n ∧ i = .int .i64 (k : Int) ∧ zs.length = k ∧ IsRd wr b ri ∧ OwnP wr w.heap.size 33 v zs ∧ Kept b w wr ∧ (k < n → ri.torn = false) ∧ ri.left.size + k ≤ 1000000 ∧
    Hid (Rd.dots n q = ((Rd.dots (n - k) ri).1, (Rd.dots (n - k) ri).2.map (zs ++ ·)))) (fun _ i _ => n - (intOf i).toNat)
  case atStart => exact ⟨0, q, [], by omega, rfl, rfl, h1, OwnP.nil _ _ _, k1, fun h => I4.out (by omega), by omega, Lib.hid (by simp)⟩
  case round =>
    clear h1 k1
    obtain ⟨k, ri, zs, hkn, rfl, hz, hrd, hown, hk, ht, hsz, hI⟩ := hrel
    by_cases hlt : k < n
    · have hst : Rd.dots (n - k) ri = if ri.dot.1.torn then (ri.dot.1, none) else ((Rd.dots (n - (k + 1)) ri.dot.1).1, (Rd.dots (n - (k + 1)) ri.dot.1).2.map (ri.dot.2 :: ·)) := by
        rw [show n - k = (n - (k + 1)) + 1 from by omega, Rd.dots]
      have hu := ri.dot_uses
      obtain ⟨T, hT⟩ := nm ri.dot.1.torn
      obtain ⟨⟨x, y⟩, hxy⟩ := nm ri.dot.2
      rw [← hT.out] at hst hu
      rw [← hxy.out] at hst
      have hbw : b < wr.heap.size := hrd.lt
      have HST := Lib.hid hst
      have HU := Lib.hid hu
      clear hst hu
      go_wp2_with fail
      refine (rdot_any b ri _ hrd (by omega)).mono ?_; rintro e w3 ⟨rfl, ⟨rj, h3, t3, e3, z3⟩, k3⟩
      rw [← hxy.out]
      rw [← hT.out] at t3 e3
      have E3 := Lib.hid e3
      have hown3 := k3.own hown hbl
      have k03 := hk.trans k3
      have s3 := k03.size
      clear hown hk hrd k3 e3
      go_wp2_with (at_builtin; refine app_pairs rfl _ _ rfl w.heap.size _ zs rfl (hown3.alloc _) (some ⟨w3.heap.size, 0, none⟩) 1 1 [(x, y)] rfl rfl (fun h => by cases h) (SlP.ofBlk (Blk.new w3 _ _)) (by omega) (Nat.le_trans s3 (by simp)) ?_)
      intro v' w4 hown4 hgrow
      have h4 : IsRd w4 b rj := Blk.grownP (Blk.alloc h3 _) (hown3.alloc _) hbl hgrow
      have k04 := (k03.alloc _).grownP (hown3.alloc _) (Nat.le_refl _) hgrow
      clear hown3 hgrow k03 h3
      go_wp2_with fail
      refine (fine_is' T b rj (by show _ = _; exact t3.symm) w4 h4).mono ?_; rintro e w5 ⟨rfl, rfl⟩
      cases T
      · obtain rfl := E3.out rfl
        have hu2 := (HU.out rfl).2
        have HI : Hid (Rd.dots n q = ((Rd.dots (n - (k + 1)) ri.dot.1).1, (Rd.dots (n - (k + 1)) ri.dot.1).2.map ((zs ++ [(x, y)]) ++ ·))) := by
          show _ = _
          rw [hI.out, HST.out]
          simp only [Bool.false_eq_true, if_false, Option.map_map]
          congr 2
          funext l
          simp
        have htt : ri.dot.1.torn = false := hT.out.symm
        go_wp2_with fail
        go_roundw
        case rel => exact ⟨k + 1, ri.dot.1, zs ++ [(x, y)], by omega, by go_num, by simp [hz], h4, hown4, k04, fun _ => htt, by omega, HI⟩
        case measure => simp [intOf]; omega
      · have e0 : d = (⟨ri.dot.1.left, true⟩, []) := by
          rw [HD.out, hI.out, HST.out]; rfl
        have E0 := Lib.hid e0
        clear e0
        go_wp2_with fail
        go_ret
        exact FIN.out _ rj none 0 0 (by rw [E0.out]; rfl) (by rw [E0.out]; exact ⟨SlP.nil _ _, fun a h => by cases h⟩) h4 (by rw [E0.out, t3]) (by rw [E0.out]; intro h; cases h) k04 (by omega)
    · obtain rfl : k = n := by omega
      have hdd : Rd.dots k q = (ri, some zs) := by
        rw [hI.out, Nat.sub_self]; simp [Rd.dots]
      obtain ⟨T, hT⟩ := nm ri.torn
      obtain ⟨A, hA⟩ := nm (decide (Asc zs))
      have hd3 : d = if T = true ∨ A = false then (⟨ri.left, true⟩, []) else (ri, zs) := by
        rw [HD.out, hdd]
        simp only
        rw [← hT.out]
        have : (¬ Asc zs) = (A = false) := by rw [hA.out]; simp
        simp only [this]
      obtain ⟨ao, cap, rfl, _, _, hsl, hab⟩ := hown.sl
      have HD3 := Lib.hid hd3
      have HSL := Lib.hid hsl
      have HZ := Lib.hid hz
      clear hd3 hdd hown hsl
      rw [hz]
      clear hz
      go_wp2_with fail
      refine (fine_is' T b ri hT _ hrd).mono ?_; rintro e w5 ⟨rfl, rfl⟩
      obtain ⟨t1, t2⟩ := ri.int_neg
      cases T
      · go_wp2_with fail
        refine (rises_is ao zs k cap HZ (by omega) A hA _ HSL.out).mono ?_; rintro e w6 ⟨rfl, hB6⟩
        have h6 : IsRd w6 b ri := Blk.below hrd hB6 hrd.lt
        have k06 := hk.trans (Kept.ofBelow hB6)
        have HSL6 := Lib.hid (HSL.out.below hB6)
        cases A
        · have e0 : d = (⟨ri.left, true⟩, []) := by rw [HD3.out]; simp
          have E0 := Lib.hid e0
          clear e0
          go_wp2_with fail
          refine (torn_any b ri _ h6 (by omega)).mono ?_; rintro e w7 ⟨rfl, h7, k7⟩
          go_wp2_with fail
          go_ret
          exact FIN.out _ _ none 0 0 (by rw [E0.out]; rfl) (by rw [E0.out]; exact ⟨SlP.nil _ _, fun a h => by cases h⟩) h7 (by rw [E0.out, t1]) (by rw [E0.out]; intro h; cases h) (k06.trans k7) (by omega)
        · have e0 : d = (ri, zs) := by rw [HD3.out]; simp
          have E0 := Lib.hid e0
          clear e0
          go_wp2_with fail
          go_ret
          exact FIN.out _ ri ao cap k (by rw [E0.out]; exact HZ.out) (by rw [E0.out]; exact ⟨HSL6.out, hab⟩) h6 (by rw [E0.out]) (by rw [E0.out]; intro h; rfl) k06 (by omega)
      · have e0 : d = (⟨ri.left, true⟩, []) := by rw [HD3.out]; simp
        have E0 := Lib.hid e0
        clear e0
        go_wp2_with fail
        refine (torn_any b ri _ hrd (by omega)).mono ?_; rintro e w7 ⟨rfl, h7, k7⟩
        go_wp2_with fail
        go_ret
        exact FIN.out _ _ none 0 0 (by rw [E0.out]; rfl) (by rw [E0.out]; exact ⟨SlP.nil _ _, fun a h => by cases h⟩) h7 (by rw [E0.out, t1]) (by rw [E0.out]; intro h; cases h) (hk.trans k7) (by omega)

/-! ### As what stands there -/
theorem Rd.dot_red (r : Rd) : Red dotP dotL r r.dot.1 r.dot.2 := by
  have h1 := red_int r 1099511627776 (by decide)
  have h2 := red_int (r.int 1099511627776).1 1099511627776 (by decide)
  have h3 := h1.seq h2 (tells_in (by decide))
  have ht : Tells (fun p : Int × Int => In 1099511627776 p.1 ∧ In 1099511627776 p.2) (fun p => numZ p.1 ++ numZ p.2) := (tells_in (by decide)).seq (tells_in (by decide))
  have hi : ∀ y : Int × Int, ((In 1099511627776 y.1 ∧ In 1099511627776 y.2) ∧ dotP y) ↔ dotP y := fun y => ⟨fun h => h.2, fun h => ⟨by have := h.le; exact ⟨⟨by omega, by omega⟩, by omega, by omega⟩, h⟩⟩
  unfold Rd.dot
  split
  · rename_i hc
    refine (Red.fail (C := dotP) h3 ht ?_ rfl).iff hi
    rcases hc with hc | hc
    · exact .inl hc
    · exact .inr (by show ¬ okD _ _ = true; rw [hc]; decide)
  · rename_i hc
    refine (Red.pass (C := dotP) h3 fun _ => ?_).iff hi
    show okD _ _ = true
    cases h : okD ((r.int 1099511627776).2 : Int) (((r.int 1099511627776).1.int 1099511627776).2 : Int) with
    | true => rfl
    | false => exact absurd (.inr h) hc
theorem tells_dotP : Tells dotP dotL := tells_dot.sub fun _ h => h.up
theorem Rd.dots_red : ∀ (n : Nat) (r : Rd), (∀ q l, Rd.dots n r = (q, some l) → RedN dotP dotL n r n q l) ∧ (∀ q, Rd.dots n r = (q, none) → q.torn = true ∧ ∀ (ys : List Dot2) (t : List UInt8), r.torn = false → ys.length = n → (∀ y ∈ ys, dotP y) → bl r.left ≠ ys.flatMap dotL ++ t)
  | 0, r => by
    refine ⟨fun q l h => ?_, fun q h => by cases h⟩
    cases h
    exact RedN.zero r
  | n + 1, r => by
    have hd := r.dot_red
    obtain ⟨i1, i2⟩ := Rd.dots_red n r.dot.1
    have far : (∀ (ys : List Dot2) (t : List UInt8), r.dot.1.torn = false → ys.length = n → (∀ y ∈ ys, dotP y) → bl r.dot.1.left ≠ ys.flatMap dotL ++ t) → ∀ (ys : List Dot2) (t : List UInt8), r.torn = false → ys.length = n + 1 → (∀ y ∈ ys, dotP y) → bl r.left ≠ ys.flatMap dotL ++ t := by
      intro h ys t hr hl hy e
      obtain ⟨y, ys, rfl⟩ : ∃ y zs, ys = y :: zs := by cases ys with | nil => simp at hl | cons y zs => exact ⟨y, zs, rfl⟩
      rw [List.flatMap_cons, List.append_assoc] at e
      rcases hd with ⟨h1, h2, h3, h4⟩ | ⟨h1, h2⟩
      · rw [h4] at e
        obtain ⟨_, e2⟩ := tells_dotP _ _ _ _ h3 (hy y (by simp)) e
        exact h ys t h1 (by simpa using hl) (fun z hz => hy z (by simp [hz])) e2
      · exact h2 y _ hr (hy y (by simp)) e
    rw [Rd.dots]
    cases ht : r.dot.1.torn with
    | true =>
      rw [if_pos rfl]
      refine ⟨fun q l h => (by cases h), fun q h => ?_⟩
      cases h
      exact ⟨ht, far fun ys t h => by rw [ht] at h; cases h⟩
    | false =>
      rw [if_neg (by simp)]
      obtain ⟨⟨q', o⟩, ho⟩ := nm (Rd.dots n r.dot.1)
      rw [← ho.out] at i1 i2 ⊢
      obtain ⟨h1, h2, h3⟩ := hd.is ht
      cases o with
      | none =>
        refine ⟨fun q l h => (by cases h), fun q h => ?_⟩
        cases h
        obtain ⟨g1, g2⟩ := i2 _ rfl
        exact ⟨g1, far g2⟩
      | some l' =>
        refine ⟨fun q l h => ?_, fun q h => by cases h⟩
        cases h
        obtain ⟨g1, g2⟩ := i1 _ _ rfl
        refine ⟨by simp [g1], ?_⟩
        rcases g2 with ⟨k1, k2, k3, k4⟩ | ⟨k1, k2⟩
        · refine .inl ⟨k1, h1, ?_, ?_⟩
          · intro z hz
            rcases List.mem_cons.1 hz with rfl | hz
            · exact h2
            · exact k3 z hz
          · rw [h3, k4, List.flatMap_cons, List.append_assoc]
        · exact .inr ⟨k1, far k2⟩
/-- A row that may be. -/
def RowP (most : Int) (xs : List Dot2) : Prop := (xs.length : Int) ≤ most ∧ (∀ x ∈ xs, dotP x) ∧ Asc xs
theorem tells_rowD {most : Int} (h : most ≤ 1000000) : Tells (fun xs : List Dot2 => (xs.length : Int) ≤ most ∧ ∀ y ∈ xs, dotP y) (rowL dotL) := (tells_row tells_dotP).sub fun _ hx => ⟨by have := hx.1; omega, hx.2⟩
theorem Rd.row_red (r : Rd) (most : Int) (hm : most ≤ 1000000) : Red (RowP most) (rowL dotL) r (r.row most).1 (r.row most).2 := by
  have h1 := red_int r most (by omega)
  obtain ⟨d1, d2⟩ := Rd.dots_red (r.int most).2 (r.int most).1
  have hi : ∀ y : List Dot2, (((y.length : Int) ≤ most ∧ ∀ z ∈ y, dotP z) ∧ Asc y) ↔ RowP most y := fun y => ⟨fun h => ⟨h.1.1, h.1.2, h.2⟩, fun h => ⟨⟨h.1, h.2.1⟩, h.2.2⟩⟩
  unfold Rd.row
  obtain ⟨⟨q, o⟩, ho⟩ := nm (Rd.dots (r.int most).2 (r.int most).1)
  rw [← ho.out] at d1 d2 ⊢
  cases o with
  | none =>
    obtain ⟨g1, g2⟩ := d2 _ rfl
    refine .inr ⟨rfl, fun ys t hr hy e => ?_⟩
    have e' : bl r.left = numZ (ys.length : Int) ++ (ys.flatMap dotL ++ t) := by rw [e, rowL, List.append_assoc]; rfl
    rcases h1 with ⟨k1, k2, k3, k4⟩ | ⟨k1, k2⟩
    · rw [k4] at e'
      obtain ⟨e1, e2⟩ := tells_in (most := most) (by omega) _ _ _ _ k3 ⟨by omega, hy.1⟩ e'
      exact g2 ys t k1 (by omega) hy.2.1 e2
    · exact k2 _ _ hr ⟨by omega, hy.1⟩ e'
  | some l =>
    have hl := (d1 _ _ rfl).red h1 hm
    simp only
    split
    · rename_i hc
      exact (Red.fail (C := Asc) hl (tells_rowD hm) hc rfl).iff hi
    · rename_i hc
      refine (Red.pass (C := Asc) hl fun _ => ?_).iff hi
      by_cases ha : Asc l
      · exact ha
      · exact absurd (.inr ha) hc
theorem rdot_red (b : Nat) (r : Rd) (w : World) (hr : IsRd w b r) (hs : r.left.size ≤ 1000000) :
    Calls Tryz.prog 48 #[.pointer (some ⟨b, 0, none⟩)] w fun e w' => ∃ (p q : Int) (r' : Rd), e = .returned (.agg #[.int .i64 p, .int .i64 q]) ∧ IsRd w' b r' ∧ Red dotP dotL r r' (p, q) ∧ r'.left.size ≤ 1000000 ∧ Kept b w w' := by
  refine (rdot_any b r w hr hs).mono ?_
  rintro e w' ⟨rfl, ⟨r', h1, h2, h3, h4⟩, h5⟩
  refine ⟨_, _, r', rfl, h1, ?_, by omega, h5⟩
  have h := r.dot_red
  cases ht : r.dot.1.torn with
  | true => exact h.any ht (h2.trans ht)
  | false => rw [h3 ht]; exact h
theorem readrow_red (b : Nat) (r : Rd) (most : Int) (w : World) (hr : IsRd w b r) (hs : r.left.size ≤ 1000000) (hm : most ≤ 1000000) :
    Calls Tryz.prog 76 #[.pointer (some ⟨b, 0, none⟩), .int .i64 most] w fun e w' => ∃ ao n cap xs r', e = .returned (.slice ao n cap) ∧ xs.length = n ∧ SlP w' ao xs ∧ (∀ a, ao = some a → w.heap.size ≤ a.block) ∧ IsRd w' b r' ∧ Red (RowP most) (rowL dotL) r r' xs ∧ r'.left.size ≤ 1000000 ∧ Kept b w w' := by
  refine (readrow_any b r most w hr hs (by omega)).mono ?_
  rintro e w' ⟨ao, cap, rfl, ⟨h0, h0'⟩, ⟨r', h1, h2, h3, h4⟩, h5⟩
  refine ⟨ao, _, cap, _, r', rfl, rfl, h0, h0', h1, ?_, h4, h5⟩
  have h := r.row_red most hm
  cases ht : (r.row most).1.torn with
  | true => exact h.any ht (h2.trans ht)
  | false => rw [h3 ht]; exact h
end Go.Proofs.YtfpjdmplepepjaaGreat

/-! WireEmpty: Wire, of what has no lists: their checks, bytes, reads, sames. -/
namespace Go.Proofs.YtfpjdmplepepjaaGreat
open Go.RowKit

set_option maxRecDepth 100000 in
set_option maxHeartbeats 1000000 in
theorem rises0 (w : World) : Calls Tryz.prog 90 #[.slice none 0 0] w fun e w' => e = .returned (.bool true) ∧ w = w' := by
  go_enter Tryz.func90, Tryz.ntmps90
  go_wp2_with fail
  refine wp_loop_rounds 1 ?_
  rw [rounds_succ]
  go_wp2_with fail
  go_ret
  exact ⟨rfl, rfl⟩

set_option maxRecDepth 100000 in
set_option maxHeartbeats 1000000 in
theorem names0 (w : World) : Calls Tryz.prog 38 #[.slice none 0 0] w fun e w' => e = .returned (.int .i64 0) ∧ w = w' := by
  go_enter Tryz.func38, Tryz.ntmps38
  go_wp2_with fail
  refine wp_loop_rounds 1 ?_
  rw [rounds_succ]
  go_wp2_with fail
  go_ret
  exact ⟨rfl, rfl⟩

set_option maxRecDepth 100000 in
set_option maxHeartbeats 1000000 in
theorem views0 (w : World) : Calls Tryz.prog 39 #[.slice none 0 0] w fun e w' => e = .returned (.int .i64 0) ∧ w = w' := by
  go_enter Tryz.func39, Tryz.ntmps39
  go_wp2_with fail
  refine wp_loop_rounds 1 ?_
  rw [rounds_succ]
  go_wp2_with fail
  go_ret
  exact ⟨rfl, rfl⟩

set_option maxRecDepth 100000 in
set_option maxHeartbeats 1000000 in
theorem eqD0 (w : World) : Calls Tryz.prog 95 #[.slice none 0 0, .slice none 0 0] w fun e w' => e = .returned (.bool true) ∧ w = w' := by
  go_enter Tryz.func95, Tryz.ntmps95
  go_wp2_with fail
  refine wp_loop_rounds 1 ?_
  rw [rounds_succ]
  go_wp2_with fail
  go_ret
  exact ⟨rfl, rfl⟩

set_option maxRecDepth 100000 in
set_option maxHeartbeats 1000000 in
theorem eqM0 (w : World) : Calls Tryz.prog 72 #[.slice none 0 0, .slice none 0 0] w fun e w' => e = .returned (.bool true) ∧ w = w' := by
  go_enter Tryz.func72, Tryz.ntmps72
  go_wp2_with fail
  refine wp_loop_rounds 1 ?_
  rw [rounds_succ]
  go_wp2_with fail
  go_ret
  exact ⟨rfl, rfl⟩

set_option maxRecDepth 100000 in
set_option maxHeartbeats 1000000 in
theorem eqT0 (w : World) : Calls Tryz.prog 73 #[.slice none 0 0, .slice none 0 0] w fun e w' => e = .returned (.bool true) ∧ w = w' := by
  go_enter Tryz.func73, Tryz.ntmps73
  go_wp2_with fail
  refine wp_loop_rounds 1 ?_
  rw [rounds_succ]
  go_wp2_with fail
  go_ret
  exact ⟨rfl, rfl⟩

set_option maxRecDepth 100000 in
set_option maxHeartbeats 1000000 in
theorem eqP0 (w : World) : Calls Tryz.prog 74 #[.slice none 0 0, .slice none 0 0] w fun e w' => e = .returned (.bool true) ∧ w = w' := by
  go_enter Tryz.func74, Tryz.ntmps74
  go_wp2_with fail
  refine wp_loop_rounds 1 ?_
  rw [rounds_succ]
  go_wp2_with fail
  go_ret
  exact ⟨rfl, rfl⟩

set_option maxRecDepth 100000 in
set_option maxHeartbeats 1000000 in
theorem sameT0 (w : World) : Calls Tryz.prog 41 #[.slice none 0 0, .slice none 0 0] w fun e w' => e = .returned (.bool true) ∧ w = w' := by
  go_enter Tryz.func41, Tryz.ntmps41
  go_wp2_with fail
  refine (eqT0 _).mono ?_; rintro e w2 ⟨rfl, rfl⟩
  go_wp2_with fail
  go_ret
  exact ⟨rfl, rfl⟩

set_option maxRecDepth 100000 in
set_option maxHeartbeats 1000000 in
theorem sameP0 (w : World) : Calls Tryz.prog 42 #[.slice none 0 0, .slice none 0 0] w fun e w' => e = .returned (.bool true) ∧ w = w' := by
  go_enter Tryz.func42, Tryz.ntmps42
  go_wp2_with fail
  refine (eqP0 _).mono ?_; rintro e w2 ⟨rfl, rfl⟩
  go_wp2_with fail
  go_ret
  exact ⟨rfl, rfl⟩

set_option maxRecDepth 100000 in
set_option maxHeartbeats 1000000 in
theorem ctxsame0 (w : World) : Calls Tryz.prog 71 #[.agg #[.slice none 0 0, .slice none 0 0], .agg #[.slice none 0 0, .slice none 0 0]] w fun e w' => e = .returned (.bool true) ∧ Below w.heap.size w w' := by
  go_enter Tryz.func71, Tryz.ntmps71
  go_wp2_with (go_at_call 95; with_reducible (refine (eqD0 _).mono ?_); rintro e w2 ⟨rfl, rfl⟩)
  go_ret
  exact ⟨rfl, bNew (bOld _) _⟩

set_option maxRecDepth 100000 in
set_option maxHeartbeats 1000000 in
theorem bagsame0 (w : World) : Calls Tryz.prog 40 #[.agg #[.slice none 0 0, .slice none 0 0, .slice none 0 0], .agg #[.slice none 0 0, .slice none 0 0, .slice none 0 0]] w fun e w' => e = .returned (.bool true) ∧ Below w.heap.size w w' := by
  obtain ⟨w0, hw0⟩ := nm ((w.alloc (.cells #[.slice none 0 0, .slice none 0 0, .slice none 0 0] 29)).alloc (.cells #[.slice none 0 0, .slice none 0 0, .slice none 0 0] 29))
  have HB : Hid (Below w.heap.size w w0) := by rw [hw0.out]; exact bNew (bOld _) _
  have k1 : Blk w0 w.heap.size #[.slice none 0 0, .slice none 0 0, .slice none 0 0] 29 := by rw [hw0.out]; exact (Blk.new w _ _).alloc _
  have k2 : Blk w0 (w.heap.size + 1) #[.slice none 0 0, .slice none 0 0, .slice none 0 0] 29 := by rw [hw0.out]; exact blk_at (by simp)
  go_enter Tryz.func40, Tryz.ntmps40
  go_upto_region 1 with fail
  rw [← hw0.out]
  have c0 : w0.cell? ⟨w.heap.size, 0, none⟩ = some (.slice none 0 0) := k1.cell 0
  have d0 : w0.cell? ⟨w.heap.size + 1, 0, none⟩ = some (.slice none 0 0) := k2.cell 0
  have c1 : w0.cell? ⟨w.heap.size, 1, none⟩ = some (.slice none 0 0) := k1.cell 1
  have d1 : w0.cell? ⟨w.heap.size + 1, 1, none⟩ = some (.slice none 0 0) := k2.cell 1
  have c2 : w0.cell? ⟨w.heap.size, 2, none⟩ = some (.slice none 0 0) := k1.cell 2
  have d2 : w0.cell? ⟨w.heap.size + 1, 2, none⟩ = some (.slice none 0 0) := k2.cell 2
  go_wp2_with fail
  refine (ctxsame0 _).mono ?_; rintro e w2 ⟨rfl, hB2⟩
  have e1 : w2.cell? ⟨w.heap.size, 0, none⟩ = some (.slice none 0 0) := (hB2.cell (p := ⟨w.heap.size, 0, none⟩) k1.lt).trans c0
  have e2 : w2.cell? ⟨w.heap.size + 1, 0, none⟩ = some (.slice none 0 0) := (hB2.cell (p := ⟨w.heap.size + 1, 0, none⟩) k2.lt).trans d0
  go_wp2_with (go_at_call 72; with_reducible (refine (eqM0 _).mono ?_); rintro e w2 ⟨rfl, rfl⟩)
  go_ret
  exact ⟨rfl, bNext HB.out hB2⟩

set_option maxRecDepth 100000 in
set_option maxHeartbeats 1000000 in
theorem ctx0 (w : World) : Calls Tryz.prog 65 #[.agg #[.slice none 0 0, .slice none 0 0]] w fun e w' => e = .returned (.int .i64 0) ∧ Below w.heap.size w w' := by
  go_enter Tryz.func65, Tryz.ntmps65
  go_wp2_with (go_at_call 90; with_reducible (refine (rises0 _).mono ?_); rintro e w2 ⟨rfl, rfl⟩)
  refine wp_loop_rounds 1 ?_
  rw [rounds_succ]
  go_wp2_with fail
  refine wp_loop_rounds 1 ?_
  rw [rounds_succ]
  go_wp2_with fail
  go_ret
  exact ⟨rfl, bOld _⟩

set_option maxRecDepth 100000 in
set_option maxHeartbeats 1000000 in
theorem bag0 (w : World) : Calls Tryz.prog 37 #[.agg #[.slice none 0 0, .slice none 0 0, .slice none 0 0]] w fun e w' => e = .returned (.int .i64 0) ∧ Below w.heap.size w w' := by
  obtain ⟨w0, hw0⟩ := nm (w.alloc (.cells #[.slice none 0 0, .slice none 0 0, .slice none 0 0] 29))
  have HB : Hid (Below w.heap.size w w0) := by rw [hw0.out]; exact bOld _
  have k1 : Blk w0 w.heap.size #[.slice none 0 0, .slice none 0 0, .slice none 0 0] 29 := by rw [hw0.out]; exact Blk.new w _ _
  go_enter Tryz.func37, Tryz.ntmps37
  go_upto_region 1 with fail
  rw [← hw0.out]
  have c0 : w0.cell? ⟨w.heap.size, 0, none⟩ = some (.slice none 0 0) := k1.cell 0
  have c1 : w0.cell? ⟨w.heap.size, 1, none⟩ = some (.slice none 0 0) := k1.cell 1
  have c2 : w0.cell? ⟨w.heap.size, 2, none⟩ = some (.slice none 0 0) := k1.cell 2
  go_wp2_with fail
  refine (ctx0 _).mono ?_; rintro e w2 ⟨rfl, hB2⟩
  have e1 : w2.cell? ⟨w.heap.size, 0, none⟩ = some (.slice none 0 0) := (hB2.cell (p := ⟨w.heap.size, 0, none⟩) k1.lt).trans c0
  go_wp2_with fail
  refine wp_loop_rounds 1 ?_
  rw [rounds_succ]
  go_wp2_with fail
  go_ret
  exact ⟨rfl, bNext HB.out hB2⟩

set_option maxRecDepth 100000 in
set_option maxHeartbeats 1000000 in
theorem int0 (w : World) : Calls Tryz.prog 59 #[.int .i64 0] w fun e w' => e = .returned (.string (ofL [0])) ∧ Below w.heap.size w w' := by
  have h := mint_int 0 w (by decide)
  rw [show (0 : Int).toNat = 0 from rfl, num0] at h
  exact h
set_option maxRecDepth 100000 in
set_option maxHeartbeats 1000000 in
theorem row0 (w : World) : Calls Tryz.prog 89 #[.slice none 0 0] w fun e w' => e = .returned (.string (ofL [0])) ∧ Below w.heap.size w w' := by
  go_enter Tryz.func89, Tryz.ntmps89
  go_wp2_with fail
  refine (int0 _).mono ?_; rintro e w2 ⟨rfl, hB⟩
  go_wp2_with fail
  refine wp_loop_rounds 1 ?_
  rw [rounds_succ]
  go_wp2_with fail
  go_ret
  exact ⟨rfl, hB⟩

set_option maxRecDepth 100000 in
set_option maxHeartbeats 1000000 in
theorem namesb0 (w : World) : Calls Tryz.prog 33 #[.slice none 0 0] w fun e w' => e = .returned (.string (ofL [0])) ∧ Below w.heap.size w w' := by
  go_enter Tryz.func33, Tryz.ntmps33
  go_wp2_with fail
  refine (int0 _).mono ?_; rintro e w2 ⟨rfl, hB⟩
  go_wp2_with fail
  refine wp_loop_rounds 1 ?_
  rw [rounds_succ]
  go_wp2_with fail
  go_ret
  exact ⟨rfl, hB⟩

set_option maxRecDepth 100000 in
set_option maxHeartbeats 1000000 in
theorem viewb0 (w : World) : Calls Tryz.prog 34 #[.slice none 0 0] w fun e w' => e = .returned (.string (ofL [0])) ∧ Below w.heap.size w w' := by
  go_enter Tryz.func34, Tryz.ntmps34
  go_wp2_with fail
  refine (int0 _).mono ?_; rintro e w2 ⟨rfl, hB⟩
  go_wp2_with fail
  refine wp_loop_rounds 1 ?_
  rw [rounds_succ]
  go_wp2_with fail
  go_ret
  exact ⟨rfl, hB⟩
end Go.Proofs.YtfpjdmplepepjaaGreat

/-! WireEmptyB: Wire, of what has no lists: a context's and a bag's bytes; what is read of them. -/
namespace Go.Proofs.YtfpjdmplepepjaaGreat
open Go.RowKit

set_option maxRecDepth 100000 in
set_option maxHeartbeats 2000000 in
theorem ctxb0 (w : World) : Calls Tryz.prog 62 #[.agg #[.slice none 0 0, .slice none 0 0]] w fun e w' => e = .returned (.string (ofL [0, 0])) ∧ Below w.heap.size w w' := by
  obtain ⟨w0, hw0⟩ := nm (w.alloc (.cells #[.slice none 0 0, .slice none 0 0] 27))
  obtain ⟨bx, hbx⟩ := nm w.heap.size
  have HB : Hid (Below w.heap.size w w0) := by rw [hw0.out]; exact bOld _
  have k1 : Blk w0 bx #[.slice none 0 0, .slice none 0 0] 27 := by rw [hw0.out, hbx.out]; exact Blk.new w _ _
  have c0 : w0.cell? ⟨bx, 0, none⟩ = some (.slice none 0 0) := k1.cell 0
  have c1 : w0.cell? ⟨bx, 1, none⟩ = some (.slice none 0 0) := k1.cell 1
  have hlt : bx < w0.heap.size := k1.lt
  have HK : Hid (∀ wa : World, Below w0.drew.heap.size w0.drew wa → wa.cell? ⟨bx, 0, none⟩ = some (.slice none 0 0) ∧ wa.cell? ⟨bx, 1, none⟩ = some (.slice none 0 0)) := by show ∀ wa : World, _; intro wa h; exact ⟨(h.cell (p := ⟨bx, 0, none⟩) hlt).trans c0, (h.cell (p := ⟨bx, 1, none⟩) hlt).trans c1⟩
  obtain ⟨z1, hz1⟩ := nm (ofL [0])
  have hap : Hid (z1 ++ z1 = ofL [0, 0]) := by show _ = _; rw [hz1.out, ofL_append]; rfl
  have hT : True := trivial
  have HR : Hid (∀ w, Calls Tryz.prog 89 #[.slice none 0 0] w fun e w' => e = .returned (.string z1) ∧ Below w.heap.size w w') := by intro w; rw [hz1.out]; exact row0 w
  have l3 : z1.size + z1.size ≤ 9223372036854775807 := by rw [hz1.out, ofL_size]; decide
  have hadd := fun w : World => run_string_add_sum (P := Tryz.prog) w z1 z1 l3
  go_enter Tryz.func62, Tryz.ntmps62
  go_upto_region 1 with fail
  rw [← hw0.out, ← hbx.out]
  go_region_held3 (fun w' => w'.cell? ⟨bx, 0, none⟩ = some (.slice none 0 0) ∧ w'.cell? ⟨bx, 1, none⟩ = some (.slice none 0 0))
    (first
      | exact HK.out _ (bNext hBa hBb)
      | exact HK.out _ hBa
      | exact ⟨cell_dr c0, cell_dr c1⟩
      | exact ⟨c0, c1⟩)
    (first
      | (go_at_call 89; clear hT; with_reducible (refine (HR.out _).mono ?_); rintro e wa ⟨rfl, hBa⟩)
      | (go_at_call 89; with_reducible (refine (HR.out _).mono ?_); rintro e wb ⟨rfl, hBb⟩))
  all_goals (go_wp2_with fail; go_ret; exact ⟨congrArg (fun t => Ending.returned (Value.string t)) hap.out, bNext (bDrew HB.out) (bNext hBa hBb)⟩)

set_option maxRecDepth 100000 in
set_option maxHeartbeats 2000000 in
theorem bagb0 (w : World) : Calls Tryz.prog 32 #[.agg #[.slice none 0 0, .slice none 0 0, .slice none 0 0]] w fun e w' => e = .returned (.string (ofL [0, 0, 0])) ∧ Below w.heap.size w w' := by
  obtain ⟨w0, hw0⟩ := nm ((w.alloc (.cells #[.slice none 0 0, .slice none 0 0, .slice none 0 0] 29)).alloc (.cells #[.pointer none, .slice none 0 0] 92))
  obtain ⟨bx, hbx⟩ := nm w.heap.size
  have HB : Hid (Below w.heap.size w w0) := by rw [hw0.out]; exact bNew (bOld _) _
  have k1 : Blk w0 bx #[.slice none 0 0, .slice none 0 0, .slice none 0 0] 29 := by rw [hw0.out, hbx.out]; exact (Blk.new w _ _).alloc _
  have hbd := bnew (w.alloc (.cells #[.slice none 0 0, .slice none 0 0, .slice none 0 0] 29))
  rw [← hw0.out, show (w.alloc (.cells #[.slice none 0 0, .slice none 0 0, .slice none 0 0] 29)).heap.size = bx + 1 from by rw [hbx.out]; simp] at hbd
  have hs0 : w0.heap.size = bx + 2 := by rw [hw0.out, hbx.out]; simp
  have hle : bx + 1 ≤ w0.drew.heap.size := by show bx + 1 ≤ w0.heap.size; omega
  have hbd2 : Lib.IsBuilder 92 5 (bx + 1) (bx + 1) (Lib.byteCells []) w0.drew := bstays hbd (bDrew (Below.refl _ _))
  have HBD := Lib.hid hbd2
  have c0 : w0.cell? ⟨bx, 0, none⟩ = some (.slice none 0 0) := k1.cell 0
  have c1 : w0.cell? ⟨bx, 1, none⟩ = some (.slice none 0 0) := k1.cell 1
  have c2 : w0.cell? ⟨bx, 2, none⟩ = some (.slice none 0 0) := k1.cell 2
  have HK : Hid (∀ wa : World, Below (bx + 1) w0.drew wa → wa.cell? ⟨bx, 0, none⟩ = some (.slice none 0 0) ∧ wa.cell? ⟨bx, 1, none⟩ = some (.slice none 0 0) ∧ wa.cell? ⟨bx, 2, none⟩ = some (.slice none 0 0)) := by show ∀ wa : World, _; intro wa h; exact ⟨(h.cell (p := ⟨bx, 0, none⟩) (Nat.lt_succ_self bx)).trans c0, (h.cell (p := ⟨bx, 1, none⟩) (Nat.lt_succ_self bx)).trans c1, (h.cell (p := ⟨bx, 2, none⟩) (Nat.lt_succ_self bx)).trans c2⟩
  obtain ⟨z1, hz1⟩ := nm (ofL [0])
  obtain ⟨z2, hz2⟩ := nm (ofL [0, 0])
  have hap : Hid (Lib.byteCells ([] ++ bl (z2 ++ z1)) = Lib.byteCells [0, 0, 0]) := by show _ = _; rw [hz1.out, hz2.out, ofL_append, bl_ofL]; rfl
  have HSZ : Hid (([] : List UInt8).length + (z2 ++ z1).size ≤ 140737488355328) := by show _ ≤ _; rw [hz1.out, hz2.out, ofL_append, ofL_size]; decide
  have HI : Hid (∀ w, Calls Tryz.prog 59 #[.int .i64 0] w fun e w' => e = .returned (.string z1) ∧ Below w.heap.size w w') := by intro w; rw [hz1.out]; exact int0 w
  have HC : Hid (∀ w, Calls Tryz.prog 62 #[.agg #[.slice none 0 0, .slice none 0 0]] w fun e w' => e = .returned (.string z2) ∧ Below w.heap.size w w') := by intro w; rw [hz2.out]; exact ctxb0 w
  have l3 : z2.size + z1.size ≤ 9223372036854775807 := by rw [hz1.out, hz2.out, ofL_size, ofL_size]; decide
  have hadd := fun w : World => run_string_add_sum (P := Tryz.prog) w z2 z1 l3
  clear hbd hbd2
  go_enter Tryz.func32, Tryz.ntmps32
  go_upto_region 2 with fail
  rw [← hw0.out, ← hbx.out]
  go_region_held3 (fun w' => w'.cell? ⟨bx, 0, none⟩ = some (.slice none 0 0) ∧ w'.cell? ⟨bx, 1, none⟩ = some (.slice none 0 0) ∧ w'.cell? ⟨bx, 2, none⟩ = some (.slice none 0 0))
    (first
      | exact HK.out _ (((bNext hBa hBb).mono hle).trans hBc)
      | exact HK.out _ (((bNext hBb hBa).mono hle).trans hBc)
      | exact HK.out _ ((bNext hBa hBb).mono hle)
      | exact HK.out _ ((bNext hBb hBa).mono hle)
      | exact HK.out _ (hBa.mono hle)
      | exact HK.out _ (hBb.mono hle)
      | exact ⟨cell_dr c0, cell_dr c1, cell_dr c2⟩
      | exact ⟨c0, c1, c2⟩)
    (first
      | (go_at_call 62; with_reducible (refine (HC.out _).mono ?_); rintro e wa ⟨rfl, hBa⟩)
      | (go_at_call 59; with_reducible (refine (HI.out _).mono ?_); rintro e wb ⟨rfl, hBb⟩)
      | (go_at_call 58; refine (bwrite_any (bx + 1) (bx + 1) [] _ _ (bstays (bstays HBD.out hBa) hBb) HSZ.out (Nat.le_trans hle (bNext hBa hBb).size)).mono ?_; rintro e wc ⟨rfl, hbc, hBc⟩)
      | (go_at_call 58; refine (bwrite_any (bx + 1) (bx + 1) [] _ _ (bstays (bstays HBD.out hBb) hBa) HSZ.out (Nat.le_trans hle (bNext hBb hBa).size)).mono ?_; rintro e wc ⟨rfl, hbc, hBc⟩))
  have hBt : Below (bx + 1) w0.drew wc := by first | exact ((bNext hBa hBb).mono hle).trans hBc | exact ((bNext hBb hBa).mono hle).trans hBc
  have hBw : Below w.heap.size w wc := (bDrew HB.out).trans (hBt.mono (by rw [hbx.out]; omega))
  obtain ⟨e0, e1, e2⟩ := HK.out _ hBt
  rw [hap.out] at hbc
  have hle2 : bx + 1 ≤ wc.heap.size := Nat.le_trans hle hBt.size
  have HBC := Lib.hid hbc
  have HBW := Lib.hid hBw
  clear hBa hBb hBc hBt hBw hbc
  go_wp2_with fail
  refine wp_loop_rounds 1 ?_
  rw [rounds_succ]
  go_wp2_with fail
  refine (Tryz.Builder_String_any _ _ _ _ HBC.out hle2).mono ?_; rintro e w3 ⟨rfl, h1⟩
  have HF := Lib.hid (HBW.out.trans (h1.mono (by rw [hbx.out]; omega)))
  go_wp2_with fail
  go_ret
  exact ⟨rfl, HF.out⟩

theorem rzero_any (b : Nat) (t : List UInt8) (most : Int) (w : World) (hr : IsRd w b ⟨ofL (0 :: t), false⟩) (hs : t.length ≤ 1000000) (h0 : 0 ≤ most) (hm : most ≤ 9223372036854775807) :
    Calls Tryz.prog 44 #[.pointer (some ⟨b, 0, none⟩), .int .i64 most] w fun e w' => e = .returned (.int .i64 0) ∧ IsRd w' b ⟨ofL t, false⟩ ∧ Kept b w w' := by
  have h := rint_any b ⟨ofL (0 :: t), false⟩ most w hr (by simp only [ofL_size, List.length_cons]; omega) hm
  have e := Rd.int_back 0 most (by decide) h0 t
  rw [num0] at e
  rw [show (0 :: t : List UInt8) = [0] ++ t from rfl] at h
  rw [e] at h
  exact h
theorem fine0 (b : Nat) (t : List UInt8) (w : World) (hr : IsRd w b ⟨ofL t, false⟩) : Calls Tryz.prog 45 #[.pointer (some ⟨b, 0, none⟩)] w fun e w' => e = .returned (.bool true) ∧ w = w' := fine_is false true rfl b _ w hr
set_option maxRecDepth 100000 in
set_option maxHeartbeats 2000000 in
theorem rrow0 (b : Nat) (t : List UInt8) (w : World) (hr : IsRd w b ⟨ofL (0 :: t), false⟩) (hs : t.length ≤ 1000000) :
    Calls Tryz.prog 76 #[.pointer (some ⟨b, 0, none⟩), .int .i64 1000] w fun e w' => e = .returned (.slice none 0 0) ∧ IsRd w' b ⟨ofL t, false⟩ ∧ Kept b w w' := by
  go_enter Tryz.func76, Tryz.ntmps76
  go_wp2_with fail
  refine (rzero_any b t _ _ hr hs (by decide) (by decide)).mono ?_; rintro e w1 ⟨rfl, h1, hk⟩
  go_wp2_with fail
  refine wp_loop_rounds 1 ?_
  rw [rounds_succ]
  go_wp2_with (first | (go_at_call 45; refine (fine0 b t _ h1).mono ?_; rintro e w2 ⟨rfl, rfl⟩) | (go_at_call 90; refine (rises0 _).mono ?_; rintro e w2 ⟨rfl, rfl⟩))
  go_ret
  exact ⟨rfl, h1, hk⟩

set_option maxRecDepth 100000 in
set_option maxHeartbeats 2000000 in
theorem rnames0 (b : Nat) (t : List UInt8) (w : World) (hr : IsRd w b ⟨ofL (0 :: t), false⟩) (hs : t.length ≤ 1000000) :
    Calls Tryz.prog 16 #[.pointer (some ⟨b, 0, none⟩)] w fun e w' => e = .returned (.slice none 0 0) ∧ IsRd w' b ⟨ofL t, false⟩ ∧ Kept b w w' := by
  go_enter Tryz.func16, Tryz.ntmps16
  go_wp2_with fail
  refine (rzero_any b t _ _ hr hs (by decide) (by decide)).mono ?_; rintro e w1 ⟨rfl, h1, hk⟩
  go_wp2_with fail
  refine wp_loop_rounds 1 ?_
  rw [rounds_succ]
  go_wp2_with (first | (go_at_call 45; refine (fine0 b t _ h1).mono ?_; rintro e w2 ⟨rfl, rfl⟩) | (go_at_call 38; refine (names0 _).mono ?_; rintro e w2 ⟨rfl, rfl⟩))
  go_ret
  exact ⟨rfl, h1, hk⟩

set_option maxRecDepth 100000 in
set_option maxHeartbeats 2000000 in
theorem rview0 (b : Nat) (t : List UInt8) (w : World) (hr : IsRd w b ⟨ofL (0 :: t), false⟩) (hs : t.length ≤ 1000000) :
    Calls Tryz.prog 17 #[.pointer (some ⟨b, 0, none⟩)] w fun e w' => e = .returned (.slice none 0 0) ∧ IsRd w' b ⟨ofL t, false⟩ ∧ Kept b w w' := by
  go_enter Tryz.func17, Tryz.ntmps17
  go_wp2_with fail
  refine (rzero_any b t _ _ hr hs (by decide) (by decide)).mono ?_; rintro e w1 ⟨rfl, h1, hk⟩
  go_wp2_with fail
  refine wp_loop_rounds 1 ?_
  rw [rounds_succ]
  go_wp2_with (first | (go_at_call 45; refine (fine0 b t _ h1).mono ?_; rintro e w2 ⟨rfl, rfl⟩) | (go_at_call 39; refine (views0 _).mono ?_; rintro e w2 ⟨rfl, rfl⟩))
  go_ret
  exact ⟨rfl, h1, hk⟩
end Go.Proofs.YtfpjdmplepepjaaGreat

/-! WireEmptyC: Wire, of what has no lists: a context and a bag that are read. -/
namespace Go.Proofs.YtfpjdmplepepjaaGreat
open Go.RowKit

theorem infoCx : (Tryz.prog.info? 27).map (·.size) = some 2 := by kernel_rfl
theorem infoBg : (Tryz.prog.info? 29).map (·.size) = some 3 := by kernel_rfl
set_option maxRecDepth 100000 in
set_option maxHeartbeats 2000000 in
theorem rctx0 (b : Nat) (t : List UInt8) (w : World) (hr : IsRd w b ⟨ofL (0 :: 0 :: t), false⟩) (hs : t.length ≤ 100000) :
    Calls Tryz.prog 47 #[.pointer (some ⟨b, 0, none⟩)] w fun e w' => e = .returned (.agg #[.slice none 0 0, .slice none 0 0]) ∧ IsRd w' b ⟨ofL t, false⟩ ∧ Kept b w w' := by
  obtain ⟨x, hx⟩ := nm w.heap.size
  have hbx : b < x := by rw [hx.out]; exact hr.lt
  obtain ⟨w0, hw0⟩ := nm (w.alloc (.cells #[.slice none 0 0, .slice none 0 0] 27))
  have Kx : Hid (Blk w0 x #[.slice none 0 0, .slice none 0 0] 27) := by show Blk _ _ _ _; rw [hw0.out, hx.out]; exact Blk.new _ _ _
  have HR : Hid (IsRd w0 b ⟨ofL (0 :: 0 :: t), false⟩) := by show IsRd _ _ _; rw [hw0.out]; exact Blk.alloc hr _
  have HP : Hid (Kept b w w0) := by show Kept _ _ _; rw [hw0.out]; exact (Kept.refl _ _).alloc _
  clear hr
  go_enter Tryz.func47, Tryz.ntmps47
  go_upto_region 1 with fail
  rw [← hw0.out, ← hx.out]
  go_wp2_with fail
  refine (rrow0 b (0 :: t) _ HR.out (by simp only [List.length_cons]; omega)).mono ?_; rintro e w1 ⟨rfl, h1, hk⟩
  replace Kx := Lib.hid (hk.blk Kx.out (by omega))
  replace HP := Lib.hid (HP.out.trans hk)
  obtain ⟨c, hc⟩ := nm w1.heap.size
  have hbc : b < c := by rw [hc.out]; exact h1.lt
  have hxc : x < c := by rw [hc.out]; exact Kx.out.lt
  obtain ⟨w2, hw2⟩ := nm (w1.alloc (.cells #[.slice none 0 0, .slice none 0 0] 27))
  have Kc : Hid (Blk w2 c #[.slice none 0 0, .slice none 0 0] 27) := by show Blk _ _ _ _; rw [hw2.out, hc.out]; exact Blk.new _ _ _
  replace Kx : Hid (Blk w2 x #[.slice none 0 0, .slice none 0 0] 27) := by show Blk _ _ _ _; rw [hw2.out]; exact Kx.out.alloc _
  replace HR : Hid (IsRd w2 b ⟨ofL (0 :: t), false⟩) := by show IsRd _ _ _; rw [hw2.out]; exact Blk.alloc h1 _
  replace HP : Hid (Kept b w w2) := by show Kept _ _ _; rw [hw2.out]; exact HP.out.alloc _
  clear h1 hk
  go_upto_region 2 with fail
  rw [← hw2.out, ← hc.out]
  go_wp2_with fail
  refine (rrow0 b t _ HR.out (by omega)).mono ?_; rintro e w3 ⟨rfl, h3, hk⟩
  replace Kx := Lib.hid (hk.blk Kx.out (by omega))
  replace Kc := Lib.hid (hk.blk Kc.out (by omega))
  replace HP := Lib.hid (HP.out.trans hk)
  have cc0 : w3.cell? ⟨c, 0, none⟩ = some (.slice none 0 0) := Kc.out.cell 0
  have cf0 : w3.frozen? ⟨c, 0, none⟩ = false := Kc.out.free 0
  have cc1 : w3.cell? ⟨c, 1, none⟩ = some (.slice none 0 0) := Kc.out.cell 1
  have cf1 : w3.frozen? ⟨c, 1, none⟩ = false := Kc.out.free 1
  obtain ⟨w4, hw4⟩ := nm (w3.setCell ⟨c, 1, none⟩ (.slice none 0 0))
  have hwc : w.heap.size ≤ c := by rw [← hx.out]; omega
  replace Kx : Hid (Blk w4 x #[.slice none 0 0, .slice none 0 0] 27) := by show Blk _ _ _ _; rw [hw4.out]; exact Kx.out.setOther (by simp only; omega) _
  replace Kc : Hid (Blk w4 c #[.slice none 0 0, .slice none 0 0] 27) := by show Blk _ _ _ _; rw [hw4.out]; exact Kc.out.set 1 _
  replace HR : Hid (IsRd w4 b ⟨ofL t, false⟩) := by show IsRd _ _ _; rw [hw4.out]; exact Blk.setOther h3 (by simp only; omega) _
  replace HP : Hid (Kept b w w4) := by show Kept _ _ _; rw [hw4.out]; exact HP.out.setNew hwc _
  clear h3 hk
  go_upto_region 3 with fail
  rw [← hw4.out]
  clear cc0 cc1 cf0 cf1
  have cc0 : w4.cell? ⟨c, 0, none⟩ = some (.slice none 0 0) := Kc.out.cell 0
  have cc1 : w4.cell? ⟨c, 1, none⟩ = some (.slice none 0 0) := Kc.out.cell 1
  go_wp2_with (first | (go_at_call 45; refine (fine0 b t _ HR.out).mono ?_; rintro e w5 ⟨rfl, rfl⟩) | (go_at_call 65; refine (ctx0 _).mono ?_; rintro e w6 ⟨rfl, hB6⟩; have xb := Kx.out.below hB6 Kx.out.lt; have xc0 := xb.cell 0; have xc1 := xb.cell 1; have xf0 := xb.free 0; have xf1 := xb.free 1; have cb := Kc.out.below hB6 Kc.out.lt; have cc2 := cb.cell 0; have cc3 := cb.cell 1))
  refine bodyPost_ret (results_cell_row rfl _ _ x 27 #[.slice none 0 0, .slice none 0 0] (0, 0) _ rfl ((xb.set 0 _).set 1 _) Tryz.underlying27 rfl infoCx) rfl ?_
  exact ⟨rfl, (Blk.setOther (Blk.setOther (HR.out.below hB6 HR.out.lt) (by simp only; omega) _) (by simp only; omega) _), ((HP.out.trans (Kept.ofBelow hB6)).setNew (by rw [← hx.out]; exact Nat.le_refl _) _).setNew (by rw [← hx.out]; exact Nat.le_refl _) _⟩

set_option maxRecDepth 100000 in
set_option maxHeartbeats 2000000 in
theorem rbag0 (b : Nat) (t : List UInt8) (w : World) (hr : IsRd w b ⟨ofL (0 :: 0 :: 0 :: t), false⟩) (hs : t.length ≤ 10000) :
    Calls Tryz.prog 15 #[.pointer (some ⟨b, 0, none⟩)] w fun e w' => e = .returned (.agg #[.slice none 0 0, .slice none 0 0, .slice none 0 0]) ∧ IsRd w' b ⟨ofL t, false⟩ ∧ Kept b w w' := by
  obtain ⟨x, hx⟩ := nm w.heap.size
  have hbx : b < x := by rw [hx.out]; exact hr.lt
  obtain ⟨w0, hw0⟩ := nm (w.alloc (.cells #[.slice none 0 0, .slice none 0 0, .slice none 0 0] 29))
  have Kx : Hid (Blk w0 x #[.slice none 0 0, .slice none 0 0, .slice none 0 0] 29) := by show Blk _ _ _ _; rw [hw0.out, hx.out]; exact Blk.new _ _ _
  have HR : Hid (IsRd w0 b ⟨ofL (0 :: 0 :: 0 :: t), false⟩) := by show IsRd _ _ _; rw [hw0.out]; exact Blk.alloc hr _
  have HP : Hid (Kept b w w0) := by show Kept _ _ _; rw [hw0.out]; exact (Kept.refl _ _).alloc _
  clear hr
  go_enter Tryz.func15, Tryz.ntmps15
  go_upto_region 1 with fail
  rw [← hw0.out, ← hx.out]
  go_wp2_with fail
  refine (rctx0 b (0 :: t) _ HR.out (by simp only [List.length_cons]; omega)).mono ?_; rintro e w1 ⟨rfl, h1, hk⟩
  replace Kx := Lib.hid (hk.blk Kx.out (by omega))
  replace HP := Lib.hid (HP.out.trans hk)
  obtain ⟨c, hc⟩ := nm w1.heap.size
  have hbc : b < c := by rw [hc.out]; exact h1.lt
  have hxc : x < c := by rw [hc.out]; exact Kx.out.lt
  obtain ⟨w2, hw2⟩ := nm (w1.alloc (.cells #[.slice none 0 0, .slice none 0 0, .slice none 0 0] 29))
  have Kc : Hid (Blk w2 c #[.slice none 0 0, .slice none 0 0, .slice none 0 0] 29) := by show Blk _ _ _ _; rw [hw2.out, hc.out]; exact Blk.new _ _ _
  replace Kx : Hid (Blk w2 x #[.slice none 0 0, .slice none 0 0, .slice none 0 0] 29) := by show Blk _ _ _ _; rw [hw2.out]; exact Kx.out.alloc _
  replace HR : Hid (IsRd w2 b ⟨ofL (0 :: t), false⟩) := by show IsRd _ _ _; rw [hw2.out]; exact Blk.alloc h1 _
  replace HP : Hid (Kept b w w2) := by show Kept _ _ _; rw [hw2.out]; exact HP.out.alloc _
  clear h1 hk
  go_upto_region 2 with fail
  rw [← hw2.out, ← hc.out]
  go_wp2_with fail
  refine (rzero_any b t 1000 _ HR.out (by omega) (by decide) (by decide)).mono ?_; rintro e w3 ⟨rfl, h3, hk⟩
  replace Kx := Lib.hid (hk.blk Kx.out (by omega))
  replace Kc := Lib.hid (hk.blk Kc.out (by omega))
  replace HP := Lib.hid (HP.out.trans hk)
  replace HR := Lib.hid h3
  clear h3 hk
  have cc0 : w3.cell? ⟨c, 0, none⟩ = some (.slice none 0 0) := Kc.out.cell 0
  have cc1 : w3.cell? ⟨c, 1, none⟩ = some (.slice none 0 0) := Kc.out.cell 1
  have cc2 : w3.cell? ⟨c, 2, none⟩ = some (.slice none 0 0) := Kc.out.cell 2
  go_wp2_with fail
  refine wp_loop_rounds 1 ?_
  rw [rounds_succ]
  go_wp2_with (first | (go_at_call 45; refine (fine0 b t _ HR.out).mono ?_; rintro e w5 ⟨rfl, rfl⟩) | (go_at_call 37; refine (bag0 _).mono ?_; rintro e w6 ⟨rfl, hB6⟩; have xb := Kx.out.below hB6 Kx.out.lt; have xc0 := xb.cell 0; have xc1 := xb.cell 1; have xc2 := xb.cell 2; have xf0 := xb.free 0; have xf1 := xb.free 1; have xf2 := xb.free 2; have cb := Kc.out.below hB6 Kc.out.lt; have cc4 := cb.cell 0; have cc5 := cb.cell 1; have cc6 := cb.cell 2))
  refine bodyPost_ret (results_cell_row rfl _ _ x 29 #[.slice none 0 0, .slice none 0 0, .slice none 0 0] (0, 0) _ rfl (((xb.set 0 _).set 1 _).set 2 _) Tryz.underlying29 rfl infoBg) rfl ?_
  exact ⟨rfl, (Blk.setOther (Blk.setOther (Blk.setOther (HR.out.below hB6 HR.out.lt) (by simp only; omega) _) (by simp only; omega) _) (by simp only; omega) _), (((HP.out.trans (Kept.ofBelow hB6)).setNew (by rw [← hx.out]; exact Nat.le_refl _) _).setNew (by rw [← hx.out]; exact Nat.le_refl _) _).setNew (by rw [← hx.out]; exact Nat.le_refl _) _⟩
end Go.Proofs.YtfpjdmplepepjaaGreat

