/- The walks of layer ring: rest, Spots, New. -/
import Derived.Test.YtpolhdkjkidpgaaSpotSort
import Derived.Test.YtpolhdkjkidpgaaBytes
import Derived.Outline
namespace Go.Proofs.Ytpolhdkjkidpgaa
open Go.RowKit Go.Shelf Go.Lib Go.Sort

theorem and_mod (x : Int) (k : Nat) (hk : k ≤ 62) : bits .and .i64 x (((2 ^ k - 1 : Nat)) : Int) = x % (2 ^ k : Nat) := by
  have hp : (2 : Nat) ^ k ≤ 2 ^ 62 := Nat.pow_le_pow_right (by decide) hk
  have hpos : 0 < (2 : Nat) ^ k := Nat.pos_of_ne_zero (by simp)
  have h2 : (BitVec.ofInt 64 ((2 ^ k - 1 : Nat) : Int)).toNat = 2 ^ k - 1 := by
    rw [BitVec.ofInt_natCast, BitVec.toNat_ofNat]; exact Nat.mod_eq_of_lt (by omega)
  show IntKind.i64.wrap ((BitVec.ofInt 64 x &&& BitVec.ofInt 64 ((2 ^ k - 1 : Nat) : Int)).toNat : Int) = _
  rw [BitVec.toNat_and, h2, Nat.and_two_pow_sub_one_eq_mod, BitVec.toNat_ofInt]
  have hdvd : ((2 ^ k : Nat) : Int) ∣ ((2 ^ 64 : Nat) : Int) := Int.natCast_dvd_natCast.2 (Nat.pow_dvd_pow 2 (by omega))
  have e : (((x % ((2 ^ 64 : Nat) : Int)).toNat % 2 ^ k : Nat) : Int) = x % ((2 ^ k : Nat) : Int) := by
    rw [Int.natCast_emod, Int.toNat_of_nonneg (Int.emod_nonneg _ (by decide)), Int.emod_emod_of_dvd _ hdvd]
  rw [e, IntKind.wrap_i64]
  have h3 := Int.emod_nonneg x (show ((2 ^ k : Nat) : Int) ≠ 0 by omega)
  have h4 := Int.emod_lt_of_pos x (show (0 : Int) < ((2 ^ k : Nat) : Int) by omega)
  omega
theorem and_64k (x : Int) : bits .and .i64 x 65535 = x % 65536 := and_mod x 16 (by decide)
theorem and_16 (x : Int) : bits .and .i64 x 15 = x % 16 := and_mod x 4 (by decide)

set_option maxRecDepth 100000 in
set_option maxHeartbeats 400000 in
theorem rest_64k (x : Int) (w : World) :
    Calls Try.prog 75 #[.int .i64 x, .int .i64 65536] w fun e w' => e = .returned (.int .i64 (x % 65536)) ∧ w = w' := by
  have h := and_64k x
  have H := Lib.hid h
  clear h
  go_enter Try.func75, Try.ntmps75
  go_wp2_with fail
  go_ret
  exact ⟨by rw [← H.out]; rfl, rfl⟩
set_option maxRecDepth 100000 in
set_option maxHeartbeats 400000 in
theorem rest_16 (x : Int) (w : World) :
    Calls Try.prog 75 #[.int .i64 x, .int .i64 16] w fun e w' => e = .returned (.int .i64 (x % 16)) ∧ w = w' := by
  have h := and_16 x
  have H := Lib.hid h
  clear h
  go_enter Try.func75, Try.ntmps75
  go_wp2_with fail
  go_ret
  exact ⟨by rw [← H.out]; rfl, rfl⟩

/-- Element k of a slice of numbers. -/
theorem SlAt.int' {w : World} {ao : Option Addr} {zs : List Int} (h : SlAt w ao (zs.map (Value.int .i64))) (k : Nat) (hk : k < zs.length) :
    ∃ b off, ao = some ⟨b, off, none⟩ ∧ b < w.heap.size ∧ w.cell? ⟨b, off + k, none⟩ = some (.int .i64 zs[k]) := by
  obtain ⟨b, off, h1, h2, h3⟩ := h k (by simpa using hk)
  refine ⟨b, off, h1, h2, ?_⟩
  rw [h3 k (by simpa using hk)]
  simp [hk]
/-- A node's place k on the ring. -/
def spotAt (id k : Int) : Int := (id % 65536 * 40503 + k * 25717 + 12345) % 65536
def spotsL (id : Int) : List (Int × Int) := [(spotAt id 0, id), (spotAt id 1, id), (spotAt id 2, id), (spotAt id 3, id)]

theorem rest_is (x y : Int) (h : Hid (x % 65536 = y)) (w : World) :
    Calls Try.prog 75 #[.int .i64 x, .int .i64 65536] w fun e w' => e = .returned (.int .i64 y) ∧ w = w' := by rw [← h.out]; exact rest_64k x w

set_option maxRecDepth 100000 in
set_option maxHeartbeats 1000000 in
theorem spots_any (id : Int) (w : World) :
    Calls Try.prog 66 #[.int .i64 id] w fun e w' => ∃ ao cap, e = .returned (.slice ao 4 cap) ∧ ao ≠ none ∧ SlP w' ao (spotsL id) ∧ Below w.heap.size w w' := by
  have hA0 : 0 ≤ id % 65536 := by omega
  have hA1 : id % 65536 ≤ 65535 := by omega
  have hmk : ∀ w, (Instr.makeSlice 46 (.int .i64 4) (.int .i64 4)).run Try.prog w = .ok (.slice (some ⟨w.heap.size, 0, none⟩) 4 4) (w.alloc (.cells #[.int .i64 0, .int .i64 0, .int .i64 0, .int .i64 0, .int .i64 0, .int .i64 0, .int .i64 0, .int .i64 0] 66)) := fun _ => by kernel_rfl
  go_enter Try.func66, Try.ntmps66
  go_wp2_with fail
  refine wp_loop_rounds 5 ?_
  rw [rounds_succ]
  go_wp2_with (go_at_call 75; refine (rest_64k _ _).mono ?_; rintro e w2 ⟨rfl, rfl⟩)
  rw [rounds_succ]
  go_wp2_with (go_at_call 75; refine (rest_64k _ _).mono ?_; rintro e w2 ⟨rfl, rfl⟩)
  rw [rounds_succ]
  go_wp2_with (go_at_call 75; refine (rest_64k _ _).mono ?_; rintro e w2 ⟨rfl, rfl⟩)
  rw [rounds_succ]
  go_wp2_with (go_at_call 75; refine (rest_64k _ _).mono ?_; rintro e w2 ⟨rfl, rfl⟩)
  rw [rounds_succ]
  go_wp2_with fail
  go_ret
  refine ⟨_, _, rfl, by simp, ?_, bOld _⟩
  have : spotsL id = [((id % 65536 * 40503 + 12345) % 65536, id), ((id % 65536 * 40503 + 25717 + 12345) % 65536, id), ((id % 65536 * 40503 + 51434 + 12345) % 65536, id), ((id % 65536 * 40503 + 77151 + 12345) % 65536, id)] := by
    simp only [spotsL, spotAt]
    congr 3
    omega
  rw [this]
  exact SlP.ofBlk (Blk.new _ _ _)

/-- What ring.New tells. -/
def ringL (ids : List Int) : List (Int × Int) := sortD (ids.flatMap spotsL)
theorem spotsL_length (ids : List Int) : (ids.flatMap spotsL).length = 4 * ids.length := by
  induction ids with
  | nil => rfl
  | cons a l ih => rw [List.flatMap_cons, List.length_append, ih]; simp [spotsL]; omega
theorem ringL_length (ids : List Int) : (ringL ids).length ≤ 4 * ids.length := by
  rw [← spotsL_length]; exact sortD_length _

set_option maxRecDepth 100000 in
set_option maxHeartbeats 2000000 in
theorem new_any (ai : Option Addr) (ids : List Int) (n ci : Nat) (hn : Hid (ids.length = n)) (hm : n ≤ 1000) (L : List (Int × Int)) (K : Nat) (hL : Hid (ringL ids = L)) (hK : Hid (L.length = K)) (w : World) (hs : SlAt w ai (ids.map (Value.int .i64))) :
    Calls Try.prog 55 #[.slice ai n ci] w fun e w' => ∃ ao cap, e = .returned (.slice ao K cap) ∧ SlP w' ao L ∧ Below w.heap.size w w' := by
  have HS := Lib.hid hs
  clear hs
  go_enter Try.func55, Try.ntmps55
  go_wp2_with fail
  go_loopw [3, 8] (fun v i wr => ∃ k : Nat, k ≤ n ∧ i = .int .i64 (k : Int) ∧ OwnP wr w.heap.size 66 v ((ids.take k).flatMap spotsL) ∧ Below w.heap.size w wr) (fun _ i _ => n - (intOf i).toNat)
  case atStart => exact ⟨0, by omega, rfl, OwnP.nil _ _ _, Below.refl _ _⟩
  case round =>
    obtain ⟨k, hk, rfl, hown, hB⟩ := hrel
    by_cases hlt : k < n
    · obtain ⟨b, off, rfl, hbl, c0⟩ := SlAt.int' HS.out k (by rw [hn.out]; exact hlt)
      obtain ⟨z, hz⟩ := nm (ids[k]'(by rw [hn.out]; exact hlt))
      rw [← hz.out] at c0
      have d0 : wr.cell? ⟨b, off + k, none⟩ = some (.int .i64 z) := (hB.cell (p := ⟨b, off + k, none⟩) hbl).trans c0
      have HN2 : Hid ((ids.take (k + 1)).flatMap spotsL = (ids.take k).flatMap spotsL ++ spotsL z) := by
        show _ = _
        rw [List.take_succ_eq_append_getElem (by rw [hn.out]; exact hlt), List.flatMap_append, ← hz.out]
        simp
      obtain ⟨Q, hQ⟩ := nm ((ids.take k).flatMap spotsL)
      have hQl : Q.length ≤ 4 * k := by rw [hQ.out, spotsL_length, List.length_take]; omega
      rw [← hQ.out] at hown HN2
      clear c0
      go_wp2_with fail
      refine (spots_any z _).mono ?_; rintro e w2 ⟨ao, cp, rfl, hno, hsl, hB2⟩
      have hown2 := hown.below hB2
      have hB3 := bNext hB hB2
      clear d0 hown hB hB2
      go_wp2_with (at_builtin; refine app_pairs rfl _ _ rfl w.heap.size _ Q rfl hown2 ao 4 cp (spotsL z) rfl rfl (fun h => absurd h hno) hsl (by omega) hB3.size ?_)
      intro v' w4 hown4 hgrow
      have hB4 := own_grown hown2 hB3 (Nat.le_refl _) hgrow
      rw [← HN2.out] at hown4
      clear hown2 hgrow hB3 hsl
      go_wp2_with fail
      go_roundw
      case rel => exact ⟨k + 1, by omega, by go_num, hown4, hB4⟩
      case measure => simp [intOf]; omega
    · obtain rfl : k = n := by omega
      rw [List.take_of_length_le (by rw [hn.out]; exact Nat.le_refl _)] at hown
      obtain ⟨Q, hQ⟩ := nm (ids.flatMap spotsL)
      rw [← hQ.out] at hown
      have hQL : Hid (Q.length = 4 * k) := by show _ = _; rw [hQ.out, spotsL_length, hn.out]
      have hLQ : Hid (sortD Q = L) := by show _ = _; rw [hQ.out]; exact hL.out
      by_cases hz : k = 0
      · subst hz
        obtain rfl := List.length_eq_zero_iff.1 hQL.out
        obtain rfl : L = [] := hLQ.out.symm
        obtain rfl : K = 0 := hK.out.symm
        obtain ⟨ao2, cap2, rfl, hc, _, _, ha⟩ := hown.sl
        go_wp2_with fail
        refine (sortfunc_none _ _ _ _).mono ?_; rintro e w2 ⟨rfl, rfl⟩
        go_wp2_with fail
        refine (compact_none _ _ _).mono ?_; rintro e w2 ⟨rfl, rfl⟩
        go_wp2_with fail
        go_ret
        exact ⟨ao2, cap2, rfl, SlP.nil _ _, hB⟩
      · obtain ⟨g, cap2, rfl, hg, hgl, hc, hcm, hH⟩ := HoldsD.ofOwn hown (by
          rintro rfl
          rcases hown.2 with ⟨_, h⟩ | ⟨_, _, _, h, _⟩
          · have := hQL.out; omega
          · cases h)
        have hQl : Q.length ≤ 4 * k := by have := hQL.out; omega
        have hsf := sortfunc_any g cap2 Q wr hH hgl (by omega)
        have HSF := Lib.hid hsf
        have hsz : (msD Q).toArray.size = Q.length := by simp [msD_length]
        have HSZ := Lib.hid hsz
        clear hown hH hsf hsz
        go_wp2_with fail
        refine HSF.out.mono ?_; rintro e w2 ⟨rfl, hH2, hK2⟩
        have hsz := HSZ.out
        have hcp := compact_any g cap2 (msD Q).toArray w2 hH2 (Nat.lt_of_lt_of_le hgl hK2.size) (by rw [hsz]; exact hc) hcm
        rw [compact_sortD, hsz, hLQ.out, hK.out] at hcp
        have HCP := Lib.hid hcp
        clear hcp hH2 hsz
        go_wp2_with fail
        refine HCP.out.mono ?_; rintro e w3 ⟨rfl, hsl, hK3⟩
        have hle := sortD_length Q
        rw [hLQ.out, hK.out] at hle
        have HLE : Hid (K ≤ cap2) := by show _ ≤ _; omega
        clear hle hQl
        go_wp2_with fail
        go_ret
        exact ⟨_, cap2, rfl, hsl, hB.trans ((hK2.trans hK3).below hg hB.size)⟩
end Go.Proofs.Ytpolhdkjkidpgaa
