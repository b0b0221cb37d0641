/- The walks of the document's reader. -/
import Derived.Test.YthhcooabfgegaaaReaderB
import Derived.Test.YthhcooabfgegaaaPlainR
import Derived.Deep.RegionHeld3
import Derived.Shelf.RegionOpenPlain
namespace Go.Proofs.Ythhcooabfgegaaa
open Go.RowKit

/-- Block b holds the document's reader r. -/
def IsRr (w : World) (b : Nat) (r : Rd) : Prop := Blk w b r.cells 45
theorem IsRr.setLeft {w : World} {b : Nat} {r : Rd} (h : IsRr w b r) (x : ByteArray) : IsRr (w.setCell ⟨b, 0, none⟩ (.string x)) b { r with left := x } := Blk.set h 0 (.string x)
theorem IsRr.setTorn {w : World} {b : Nat} {r : Rd} (h : IsRr w b r) (x : Bool) : IsRr (w.setCell ⟨b, 1, none⟩ (.bool x)) b { r with torn := x } := Blk.set h 1 (.bool x)

theorem stepF (s : ByteArray) (k m : Nat) (hk : k < 10) (h : k < s.size) :
    Pl.rdG (10 - k) false m ((bl s).drop k) = if 144115188075855872 ≤ m then none else
      if s[k].toNat < 128 then some (m * 128 + s[k].toNat % 128, (bl s).drop (k + 1)) else Pl.rdG (10 - (k + 1)) false (m * 128 + s[k].toNat % 128) ((bl s).drop (k + 1)) := by
  have e : (bl s).drop k = s[k] :: (bl s).drop (k + 1) := by
    rw [List.drop_eq_getElem_cons (by rw [bl_length]; exact h)]; rfl
  rw [e, show 10 - k = (9 - k) + 1 from by omega, Pl.rdG, show 10 - (k + 1) = 9 - k from by omega]
  have h2 : (s[k] < 128) = (s[k].toNat < 128) := by rw [UInt8.lt_iff_toNat_lt]; rfl
  simp only [h2, Bool.false_eq_true, false_and, or_false]
theorem endF (s : ByteArray) (k m : Nat) (h : ¬ (k < 10 ∧ k < s.size)) : Pl.rdG (10 - k) false m ((bl s).drop k) = none := by
  by_cases hk : k < 10
  · rw [List.drop_of_length_le (by rw [bl_length]; omega), show 10 - k = (9 - k) + 1 from by omega]; rfl
  · rw [show 10 - k = 0 from by omega]; rfl

theorem Rd.num_ref (s : ByteArray) : (Rd.mk s false).num = match Pl.rdG 10 false 0 (bl s) with
    | some (n, l) => if Pl.num n = (bl s).take ((bl s).length - l.length) then (⟨ofL l, false⟩, n) else (⟨s, true⟩, 0)
    | none => (⟨s, true⟩, 0) := by
  rw [Rd.num, if_neg (by simp)]
  show (match Pl.rdNum (bl s) with | some (n, l) => ((⟨ofL l, false⟩ : Rd), n) | none => (⟨s, true⟩, 0)) = _
  rw [Pl.ref_reads (bl s) (fun n r h => (Pl.rdG_lt _ _ _ _ _ _ h).1)]
  cases h : Pl.rdG 10 false 0 (bl s) with
  | none => rfl
  | some x =>
    obtain ⟨n, r⟩ := x
    simp only
    by_cases hh : Pl.num n = (bl s).take ((bl s).length - r.length)
    · rw [if_pos hh, if_pos hh]
    · rw [if_neg hh, if_neg hh]

theorem refnum_is (x : Int) (n : Nat) (hx : x = n) (P : ByteArray) (hP : ofL (Pl.num n) = P) (b : Nat) (v : Value) (w0 w : World) (hw : w = w0.drew) (hb : b < w0.heap.size) (hc : w0.cell? ⟨b, 0, none⟩ = some v) (hn : n < 18446744073709551616) :
    Calls Try.prog 55 #[.int .u64 x] w fun e w' => e = .returned (.string P) ∧ Below w0.heap.size w0 w' ∧ w'.cell? ⟨b, 0, none⟩ = some v := by
  subst hx hP hw
  refine (refnum_any n _ hn).mono ?_
  rintro e w' ⟨rfl, h⟩
  have h2 : Below w0.heap.size w0 w' := (Below.refl _ _).drew.trans h
  exact ⟨rfl, h2, (h2.cell (p := ⟨b, 0, none⟩) hb).trans hc⟩

set_option maxRecDepth 100000 in
set_option maxHeartbeats 20000000 in
theorem refread_any (b : Nat) (r : Rd) (w : World) (hr : IsRr w b r) (hs : r.left.size ≤ 4611686018427387904) :
    Calls Try.prog 58 #[.pointer (some ⟨b, 0, none⟩)] w fun e w' => e = .returned (.int .u64 (r.num.2 : Nat)) ∧ IsRr w' b r.num.1 ∧ Kept b w w' := by
  obtain ⟨s, torn⟩ := r
  simp only at hs
  cases torn
  rotate_left
  · have e0 : (Rd.mk s true).num = (⟨s, true⟩, 0) := rfl
    rw [e0]; clear e0
    have c1 : w.cell? ⟨b, 1, none⟩ = some (.bool true) := hr.cell 1
    go_enter Try.func58, Try.ntmps58
    go_wp2_with fail
    go_ret
    exact ⟨rfl, hr, Kept.refl _ _⟩
  have hbl := hr.lt
  have c0 : w.cell? ⟨b, 0, none⟩ = some (.string s) := hr.cell 0
  have c1 : w.cell? ⟨b, 1, none⟩ = some (.bool false) := hr.cell 1
  have f0 : w.frozen? ⟨b, 0, none⟩ = false := hr.free 0
  have f1 : w.frozen? ⟨b, 1, none⟩ = false := hr.free 1
  have key := Rd.num_ref s
  obtain ⟨Q, hQ⟩ := nm ((Rd.mk s false).num)
  rw [← hQ.out] at key ⊢
  have KEY := Lib.hid key
  clear key
  go_enter Try.func58, Try.ntmps58
  go_wp2_with fail
  go_loop [3, 4] (fun v i => ∃ k m : Nat, k ≤ 10 ∧ k ≤ s.size ∧ i = .int .i64 (k : Int) ∧ v = .int .u64 (m : Int) ∧ m < 18446744073709551616 ∧ Hid (Pl.rdG 10 false 0 (bl s) = Pl.rdG (10 - k) false m ((bl s).drop k))) (fun _ i => 10 - (intOf i).toNat)
  case atStart => exact ⟨0, 0, by omega, by omega, rfl, rfl, by omega, rfl⟩
  case round =>
    obtain ⟨k, m, hk1, hk2, rfl, rfl, hm, hrel⟩ := hrel
    by_cases hlt : k < 10 ∧ k < s.size
    rotate_left
    · have HE : Hid (Q = (⟨s, true⟩, 0)) := by
        show _ = _
        rw [KEY.out, hrel.out, endF s k m hlt]
      go_wp2_with fail
      all_goals
        go_ret
        rw [HE.out]
        exact ⟨rfl, hr.setTorn _, (Kept.refl _ _).set _ _⟩
    obtain ⟨hlt1, hlt2⟩ := hlt
    have hst := stepF s k m hlt1 hlt2
    have h256 := s[k].toNat_lt
    by_cases hbad : 144115188075855872 ≤ m
    · rw [if_pos hbad] at hst
      have HE : Hid (Q = (⟨s, true⟩, 0)) := by
        show _ = _
        rw [KEY.out, hrel.out, hst]
      clear hst
      have hd : decide ((m : Int) > 144115188075855871) = true := decide_eq_true (by omega)
      have hd2 : decide (144115188075855871 < (m : Int)) = true := decide_eq_true (by omega)
      go_wp2_with fail
      go_ret
      rw [HE.out]
      exact ⟨rfl, hr.setTorn _, (Kept.refl _ _).set _ _⟩
    · rw [if_neg hbad] at hst
      have hd2 : decide (144115188075855871 < (m : Int)) = false := decide_eq_false (by omega)
      obtain ⟨n, hn⟩ := nm (m * 128 + s[k].toNat % 128)
      have hn64 : n < 18446744073709551616 := by rw [hn.out]; omega
      rw [← hn.out] at hst
      by_cases hc : s[k].toNat < 128
      · rw [if_pos hc] at hst
        have hlen : (bl s).length - ((bl s).drop (k + 1)).length = k + 1 := by rw [List.length_drop, bl_length]; omega
        have hq : Q = if Pl.num n = (bl s).take (k + 1) then (⟨ofL ((bl s).drop (k + 1)), false⟩, n) else (⟨s, true⟩, 0) := by
          rw [KEY.out, hrel.out, hst]
          simp only [hlen]
        clear hst hlen
        obtain ⟨P, hP⟩ := nm (ofL (Pl.num n))
        have hk0 : (0 : Int) ≤ (k : Int) := by omega
        have hk3 : (0 : Int) ≤ (k : Int) + 1 := by omega
        have hk4 : (k : Int) + 1 ≤ (s.size : Int) := by omega
        have hk5 : IntKind.i64.wrap ((k : Int) + 1) = (k : Int) + 1 := by rw [IntKind.wrap_i64]; omega
        have hex : bl (s.extract 0 (k + 1)) = (bl s).take (k + 1) := by rw [bl_extract]; simp
        have hX : s.extract (k + 1) s.size = ofL ((bl s).drop (k + 1)) := by
          refine bl_inj ?_
          rw [bl_extract, bl_ofL, List.take_of_length_le (by rw [List.length_drop, bl_length]; exact Nat.le_refl _)]
        have hnn : IntKind.u64.wrap ((m : Int) * 128 + (s[k].toNat : Int) % 128) = (n : Int) := by
          rw [hn.out, IntKind.wrap_u64]; omega
        by_cases hh : Pl.num n = (bl s).take (k + 1)
        · rw [if_pos hh, ← hX] at hq
          have hcmp : (P.toList == (s.extract 0 (k + 1)).toList) = true := by
            rw [toList_bl, toList_bl, hex, hP.out, bl_ofL, hh]; simp
          have HE := Lib.hid hq
          clear hq hh hex hX
          go_wp2_with fail
          go_region_held3 (fun w' => w'.cell? ⟨b, 0, none⟩ = some (.string s)) (first | assumption | go_keep)
            ((go_at_call 55; refine (refnum_is _ n rfl P hP.out.symm b _ w _ rfl hbl c0 hn64).mono ?_; rintro e w2 ⟨rfl, hB, g⟩))
          all_goals
            have hr2 := Blk.below hr hB hbl
            have f2 : w2.frozen? ⟨b, 0, none⟩ = false := hr2.free 0
            go_wp2_with fail
            go_ret
            rw [HE.out]
            exact ⟨rfl, IsRr.setLeft hr2 _, (Kept.ofBelow hB).set _ _⟩
        · rw [if_neg hh] at hq
          have hcmp : (P.toList == (s.extract 0 (k + 1)).toList) = false := by
            rw [toList_bl, toList_bl, hex, hP.out, bl_ofL]; simpa using hh
          have HE := Lib.hid hq
          clear hq hh hex hX
          go_wp2_with fail
          go_region_held3 (fun w' => w'.cell? ⟨b, 0, none⟩ = some (.string s)) (first | assumption | go_keep)
            ((go_at_call 55; refine (refnum_is _ n rfl P hP.out.symm b _ w _ rfl hbl c0 hn64).mono ?_; rintro e w2 ⟨rfl, hB, g⟩))
          all_goals
            have hr2 := Blk.below hr hB hbl
            have f2 : w2.frozen? ⟨b, 1, none⟩ = false := hr2.free 1
            have g2 : w2.cell? ⟨b, 1, none⟩ = some (.bool false) := hr2.cell 1
            go_wp2_with fail
            go_ret
            rw [HE.out]
            exact ⟨rfl, IsRr.setTorn hr2 _, (Kept.ofBelow hB).set _ _⟩
      · rw [if_neg hc] at hst
        have HE : Hid (Pl.rdG 10 false 0 (bl s) = Pl.rdG (10 - (k + 1)) false n ((bl s).drop (k + 1))) := Lib.hid (hrel.out.trans hst)
        clear hst
        go_wp2_with fail
        go_round
        case rel => exact ⟨k + 1, n, by omega, by omega, by go_num, congrArg _ (by rw [hn.out]; simp), hn64, HE⟩
        case measure => simp [intOf]; omega

end Go.Proofs.Ythhcooabfgegaaa
