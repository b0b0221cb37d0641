/- A law's view: made. -/
import Derived.Test.YtpolhdkjkidpgaaViewRefB
import Derived.Test.YtpolhdkjkidpgaaPeerEq
namespace Go.Proofs.Ytpolhdkjkidpgaa
open Go.RowKit Go.Shelf Go.Lib Go.Sort

theorem and_modV (x : Int) (k : Nat) (hk : k ≤ 62) : bits .and .i64 x (((2 ^ k - 1 : Nat)) : Int) = x % (2 ^ k : Nat) := by
  have hp : (2 : Nat) ^ k ≤ 2 ^ 62 := Nat.pow_le_pow_right (by decide) hk
  have hpos : 0 < (2 : Nat) ^ k := Nat.pos_of_ne_zero (by simp)
  have h2 : (BitVec.ofInt 64 ((2 ^ k - 1 : Nat) : Int)).toNat = 2 ^ k - 1 := by
    rw [BitVec.ofInt_natCast, BitVec.toNat_ofNat]; exact Nat.mod_eq_of_lt (by omega)
  show IntKind.i64.wrap ((BitVec.ofInt 64 x &&& BitVec.ofInt 64 ((2 ^ k - 1 : Nat) : Int)).toNat : Int) = _
  rw [BitVec.toNat_and, h2, Nat.and_two_pow_sub_one_eq_mod, BitVec.toNat_ofInt]
  have hdvd : ((2 ^ k : Nat) : Int) ∣ ((2 ^ 64 : Nat) : Int) := Int.natCast_dvd_natCast.2 (Nat.pow_dvd_pow 2 (by omega))
  have e : (((x % ((2 ^ 64 : Nat) : Int)).toNat % 2 ^ k : Nat) : Int) = x % ((2 ^ k : Nat) : Int) := by
    rw [Int.natCast_emod, Int.toNat_of_nonneg (Int.emod_nonneg _ (by decide)), Int.emod_emod_of_dvd _ hdvd]
  rw [e, IntKind.wrap_i64]
  have h3 := Int.emod_nonneg x (show ((2 ^ k : Nat) : Int) ≠ 0 by omega)
  have h4 := Int.emod_lt_of_pos x (show (0 : Int) < ((2 ^ k : Nat) : Int) by omega)
  omega
theorem and7_is (x : Int) : bits .and .i64 x 7 = x % 8 := and_modV x 3 (by decide)
/-- The peer that a law makes of one. -/
def mk3 (z : Int) : Int := if z.tmod 3 < 0 then -(z.tmod 3) else z.tmod 3
def mkP (p : P3) : P3 := (1 + bits .and .i64 p.1 7, bits .and .i64 p.2.1 7, mk3 p.2.2)
theorem mk3_is (z : Int) : 0 ≤ mk3 z ∧ mk3 z ≤ 2 := by
  have h1 : -3 < z.tmod 3 := Int.lt_tmod_of_pos z (by decide)
  have h2 : z.tmod 3 < 3 := Int.tmod_lt_of_pos z (by decide)
  unfold mk3
  split <;> omega
/-- A peer whose ID lies from 1 to 8. -/
def okP (p : P3) : Prop := (1 ≤ p.1 ∧ p.1 < 1 + (8 : Nat)) ∧ (0 ≤ p.2.1 ∧ p.2.1 < 1073741824) ∧ 0 ≤ p.2.2 ∧ p.2.2 ≤ 2
theorem okP_mk (p : P3) : okP (mkP p) := by
  have := mk3_is p.2.2
  unfold okP mkP
  rw [and7_is, and7_is]
  simp only
  omega
theorem okP_may {p : P3} (h : okP p) : mayP p = true := mayP_mk (by unfold okP at h; omega)
/-- Views whose IDs lie from 1 to 8. -/
structure Vsm (L : List P3) : Prop where
  sort : SortT L
  all : ∀ p ∈ L, okP p
theorem Vsm.len {L : List P3} (h : Vsm L) : L.length ≤ 8 := sort_few h.sort fun p hp => (h.all p hp).1
theorem Vsm.ok {L : List P3} (h : Vsm L) : Vok L := ⟨h.sort, fun p hp => okP_may (h.all p hp), by have := h.len; omega⟩
theorem Vsm.nil : Vsm [] := ⟨sort_nil, fun p h => by cases h⟩
theorem Vsm.joinL {A B : List P3} (ha : Vsm A) (hb : Vsm B) : Vsm (joinL A B) := ⟨joinL_sort ha.sort B, joinL_all ha.all hb.all⟩
theorem Vsm.vjoin_is {A B : List P3} (ha : Vsm A) (hb : Vsm B) : vjoin A B = Go.Proofs.Ytpolhdkjkidpgaa.joinL A B := List.take_of_length_le (by have := (ha.joinL hb).len; omega)
theorem Vsm.vjoin {A B : List P3} (ha : Vsm A) (hb : Vsm B) : Vsm (vjoin A B) := by rw [ha.vjoin_is hb]; exact ha.joinL hb
theorem Vsm.one {p : P3} (h : okP p) : Vsm [p] := ⟨List.pairwise_singleton _ _, fun q hq => by obtain rfl := List.mem_singleton.1 hq; exact h⟩
def madeL (l : List P3) : List P3 := l.foldl (fun out p => vjoin out [mkP p]) []
theorem madeL_snoc (l : List P3) (p : P3) : madeL (l ++ [p]) = vjoin (madeL l) [mkP p] := by unfold madeL; rw [List.foldl_append]; rfl
theorem madeL_sm (l : List P3) : Vsm (madeL l) := by
  have key : ∀ (l : List P3) (a : List P3), Vsm a → Vsm (l.foldl (fun out p => vjoin out [mkP p]) a) := by
    intro l
    induction l with
    | nil => intro a h; exact h
    | cons p l ih => intro a h; exact ih _ (h.vjoin (Vsm.one (okP_mk p)))
  exact key l [] Vsm.nil

set_option maxRecDepth 100000 in
set_option maxHeartbeats 4000000 in
theorem made_nb (A : List P3) (n cap : Nat) (hn : Hid (A.length = n)) (ao : Option Addr) (w : World) (hs : SlT w ao A) :
    Calls Try.prog 10 #[.slice ao n cap] w fun e w' => ∃ v, e = .returned v ∧ Vw w' v (madeL (A.take 12)) ∧ Below w.heap.size w w' ∧ Nb w.heap.size v := by
  have HS := Lib.hid hs
  clear hs
  go_enter Try.func10, Try.ntmps10
  go_wp2_with fail
  go_loopw [3, 4] (fun v i wr => ∃ (k : Nat) (L : List P3), k ≤ n ∧ k ≤ 12 ∧ i = .int .i64 (k : Int) ∧ Vw wr v L ∧ Hid (L = madeL (A.take k)) ∧ Below w.heap.size w wr ∧ Hid (Nb w.heap.size v)) (fun _ i _ => 12 - (intOf i).toNat)
  case atStart => exact ⟨0, [], by omega, by omega, rfl, Vw.nil _, rfl, Below.refl _ _, Nb.nil _⟩
  case round =>
    obtain ⟨k, L, hk, hk12, rfl, hv, hL, hB, hN⟩ := hrel
    by_cases hlt : k < n ∧ k < 12
    · obtain ⟨hlt, hlt12⟩ := hlt
      obtain ⟨b, off, x, y, z, rfl, hbl, c0, c1, c2, hpk⟩ := HS.out.get k (by rw [hn.out]; exact hlt)
      have d0 : wr.cell? ⟨b, off + k * 3, none⟩ = some (.int .i64 x) := (hB.cell (p := ⟨b, off + k * 3, none⟩) hbl).trans c0
      have d1 : wr.cell? ⟨b, off + k * 3 + 1, none⟩ = some (.int .i64 y) := (hB.cell (p := ⟨b, off + k * 3 + 1, none⟩) hbl).trans c1
      have d2 : wr.cell? ⟨b, off + k * 3 + 2, none⟩ = some (.int .i64 z) := (hB.cell (p := ⟨b, off + k * 3 + 2, none⟩) hbl).trans c2
      have hLs : Vsm L := by rw [hL.out]; exact madeL_sm _
      obtain ⟨a0, h0⟩ := nm (bits .and .i64 x 7)
      obtain ⟨a1, h1⟩ := nm (bits .and .i64 y 7)
      have q0 : 0 ≤ a0 ∧ a0 < 8 := by rw [h0.out, and7_is]; omega
      obtain ⟨q0, q0'⟩ := q0
      have e0 : bits .and .i64 x 7 = a0 := h0.out.symm
      have e1 : bits .and .i64 y 7 = a1 := h1.out.symm
      have hw0 : IntKind.i64.wrap (1 + a0) = 1 + a0 := by rw [IntKind.wrap_i64]; omega
      have t1 : -3 < z.tmod 3 := Int.lt_tmod_of_pos z (by decide)
      have t2 : z.tmod 3 < 3 := Int.tmod_lt_of_pos z (by decide)
      obtain ⟨s, hs⟩ := nm (mk3 z)
      have HN : Hid (vjoin L [(1 + a0, a1, s)] = madeL (A.take (k + 1))) := by
        show _ = _
        rw [take_snocT hpk.out, madeL_snoc, ← hL.out]
        unfold mkP
        rw [h0.out, h1.out, hs.out]
      clear c0 c1 c2
      by_cases hneg : z.tmod 3 < 0
      · have hs3 : Hid (-(z.tmod 3) = s) := by show _ = _; rw [hs.out]; unfold mk3; rw [if_pos hneg]
        have hwn : IntKind.i64.wrap (-(z.tmod 3)) = s := by rw [hs3.out, IntKind.wrap_i64]; have := hs3.out; omega
        have hone : Vw (wr.drew.alloc (.cells #[.int .i64 (1 + a0), .int .i64 a1, .int .i64 s] 32)) (.slice (some ⟨wr.heap.size, 0, none⟩) 1 1) [(1 + a0, a1, s)] := ⟨_, 1, rfl, Nat.le_refl _, (fun e => by cases e), SlT.ofBlk (Blk.new wr.drew _ _)⟩
        have hBw : Below wr.heap.size wr (wr.drew.alloc (.cells #[.int .i64 (1 + a0), .int .i64 a1, .int .i64 s] 32)) := bNew (bDrew (Below.refl _ _)) _
        have hj := refjoin_nb L [(1 + a0, a1, s)] hLs.sort (by have := hLs.len; omega) (by simp) _ _ _ (hv.below hBw) hone
        have HJ := Lib.hid hj
        have HB := Lib.hid (bNext hB hBw)
        have hblr : b < wr.heap.size := Nat.lt_of_lt_of_le hbl hB.size
        have HKEEP : Hid (∀ wa : World, Below (wr.drew.alloc (.cells #[.int .i64 (1 + a0), .int .i64 a1, .int .i64 s] 32)).heap.size (wr.drew.alloc (.cells #[.int .i64 (1 + a0), .int .i64 a1, .int .i64 s] 32)) wa → wa.cell? ⟨b, off + k * 3, none⟩ = some (.int .i64 x) ∧ wa.cell? ⟨b, off + k * 3 + 1, none⟩ = some (.int .i64 y)) := by
          show ∀ wa : World, _
          intro wa hBa
          have hlb : b < (wr.drew.alloc (.cells #[.int .i64 (1 + a0), .int .i64 a1, .int .i64 s] 32)).heap.size := Nat.lt_of_lt_of_le hblr hBw.size
          exact ⟨(hBa.cell (p := ⟨b, off + k * 3, none⟩) hlb).trans ((hBw.cell (p := ⟨b, off + k * 3, none⟩) hblr).trans d0), (hBa.cell (p := ⟨b, off + k * 3 + 1, none⟩) hlb).trans ((hBw.cell (p := ⟨b, off + k * 3 + 1, none⟩) hblr).trans d1)⟩
        clear hj hone hBw hv hB hLs
        go_wp2_with fail
        go_region_held3 (fun w' => w'.cell? ⟨b, off + k * 3, none⟩ = some (.int .i64 x) ∧ w'.cell? ⟨b, off + k * 3 + 1, none⟩ = some (.int .i64 y))
          (first
            | exact HKEEP.out _ ‹_›
            | (go_split_ands; refine ⟨?_, ?_⟩ <;> (repeat (first | with_reducible refine cell_al ?_ | with_reducible refine cell_dr ?_)) <;> with_reducible assumption))
          ((go_at_call 13; refine HJ.out.mono ?_; rintro e w2 ⟨v2, rfl, hv2, hB2, hnb⟩))
        have HNB : Hid (Nb w.heap.size v2) := hnb _ HB.out.size hN.out
        have HB2 := Lib.hid (bNext HB.out hB2)
        clear hB2 HKEEP hnb
        go_wp2_with fail
        go_roundw
        case rel => exact ⟨k + 1, _, by omega, by omega, by go_num, hv2, HN, HB2.out, HNB⟩
        case measure => simp [intOf]; omega
      · have hs3 : Hid (z.tmod 3 = s) := by show _ = _; rw [hs.out]; unfold mk3; rw [if_neg hneg]
        rw [← hs3.out] at HN
        have hone : Vw (wr.drew.alloc (.cells #[.int .i64 (1 + a0), .int .i64 a1, .int .i64 (z.tmod 3)] 32)) (.slice (some ⟨wr.heap.size, 0, none⟩) 1 1) [(1 + a0, a1, (z.tmod 3))] := ⟨_, 1, rfl, Nat.le_refl _, (fun e => by cases e), SlT.ofBlk (Blk.new wr.drew _ _)⟩
        have hBw : Below wr.heap.size wr (wr.drew.alloc (.cells #[.int .i64 (1 + a0), .int .i64 a1, .int .i64 (z.tmod 3)] 32)) := bNew (bDrew (Below.refl _ _)) _
        have hj := refjoin_nb L [(1 + a0, a1, (z.tmod 3))] hLs.sort (by have := hLs.len; omega) (by simp) _ _ _ (hv.below hBw) hone
        have HJ := Lib.hid hj
        have HB := Lib.hid (bNext hB hBw)
        have hblr : b < wr.heap.size := Nat.lt_of_lt_of_le hbl hB.size
        have HKEEP : Hid (∀ wa : World, Below (wr.drew.alloc (.cells #[.int .i64 (1 + a0), .int .i64 a1, .int .i64 (z.tmod 3)] 32)).heap.size (wr.drew.alloc (.cells #[.int .i64 (1 + a0), .int .i64 a1, .int .i64 (z.tmod 3)] 32)) wa → wa.cell? ⟨b, off + k * 3, none⟩ = some (.int .i64 x) ∧ wa.cell? ⟨b, off + k * 3 + 1, none⟩ = some (.int .i64 y)) := by
          show ∀ wa : World, _
          intro wa hBa
          have hlb : b < (wr.drew.alloc (.cells #[.int .i64 (1 + a0), .int .i64 a1, .int .i64 (z.tmod 3)] 32)).heap.size := Nat.lt_of_lt_of_le hblr hBw.size
          exact ⟨(hBa.cell (p := ⟨b, off + k * 3, none⟩) hlb).trans ((hBw.cell (p := ⟨b, off + k * 3, none⟩) hblr).trans d0), (hBa.cell (p := ⟨b, off + k * 3 + 1, none⟩) hlb).trans ((hBw.cell (p := ⟨b, off + k * 3 + 1, none⟩) hblr).trans d1)⟩
        clear hj hone hBw hv hB hLs
        go_wp2_with fail
        go_region_held3 (fun w' => w'.cell? ⟨b, off + k * 3, none⟩ = some (.int .i64 x) ∧ w'.cell? ⟨b, off + k * 3 + 1, none⟩ = some (.int .i64 y))
          (first
            | exact HKEEP.out _ ‹_›
            | (go_split_ands; refine ⟨?_, ?_⟩ <;> (repeat (first | with_reducible refine cell_al ?_ | with_reducible refine cell_dr ?_)) <;> with_reducible assumption))
          ((go_at_call 13; refine HJ.out.mono ?_; rintro e w2 ⟨v2, rfl, hv2, hB2, hnb⟩))
        have HNB : Hid (Nb w.heap.size v2) := hnb _ HB.out.size hN.out
        have HB2 := Lib.hid (bNext HB.out hB2)
        clear hB2 HKEEP hnb
        go_wp2_with fail
        go_roundw
        case rel => exact ⟨k + 1, _, by omega, by omega, by go_num, hv2, HN, HB2.out, HNB⟩
        case measure => simp [intOf]; omega
    · have hkt : A.take k = A.take 12 := by
        rcases Nat.lt_or_ge k 12 with h | h
        · rw [List.take_of_length_le (by rw [hn.out]; omega), List.take_of_length_le (by rw [hn.out]; omega)]
        · rw [show k = 12 from by omega]
      have HV := Lib.hid (hv.eq (hL.out.trans (by rw [hkt])))
      have HB := Lib.hid hB
      clear hkt hv hB
      by_cases hkn : k < n
      · obtain rfl : k = 12 := by omega
        go_wp2_with fail
        go_ret
        exact ⟨_, rfl, HV.out, HB.out, hN.out⟩
      · obtain rfl : k = n := by omega
        go_wp2_with fail
        go_ret
        exact ⟨_, rfl, HV.out, HB.out, hN.out⟩
theorem made_any (A : List P3) (n cap : Nat) (hn : Hid (A.length = n)) (ao : Option Addr) (w : World) (hs : SlT w ao A) :
    Calls Try.prog 10 #[.slice ao n cap] w fun e w' => ∃ v, e = .returned v ∧ Vw w' v (madeL (A.take 12)) ∧ Below w.heap.size w w' :=
  (made_nb A n cap hn ao w hs).mono fun _ _ ⟨v, h1, h2, h3, _⟩ => ⟨v, h1, h2, h3⟩
end Go.Proofs.Ytpolhdkjkidpgaa
