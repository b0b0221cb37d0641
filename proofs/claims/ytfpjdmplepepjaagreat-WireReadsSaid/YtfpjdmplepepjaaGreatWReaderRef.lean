/- The document's reader. -/
import Derived.Test.YtfpjdmplepepjaaGreatK2
import Derived.Deep.RegionHeld3
import Derived.Shelf.RegionOpenPlain
namespace Go.Proofs.YtfpjdmplepepjaaGreat
open Go.RowKit

/-- Block b holds the document's reader r. -/
def IsRr (w : World) (b : Nat) (r : Rd) : Prop := Blk w b r.cells 56
theorem IsRr.setLeft {w : World} {b : Nat} {r : Rd} (h : IsRr w b r) (x : ByteArray) : IsRr (w.setCell ⟨b, 0, none⟩ (.string x)) b { r with left := x } := Blk.set h 0 (.string x)
theorem IsRr.setTorn {w : World} {b : Nat} {r : Rd} (h : IsRr w b r) (x : Bool) : IsRr (w.setCell ⟨b, 1, none⟩ (.bool x)) b { r with torn := x } := Blk.set h 1 (.bool x)

theorem stepF (s : ByteArray) (k m : Nat) (hk : k < 10) (h : k < s.size) :
    Pl.rdG (10 - k) false m ((bl s).drop k) = if 144115188075855872 ≤ m then none else
      if s[k].toNat < 128 then some (m * 128 + s[k].toNat % 128, (bl s).drop (k + 1)) else Pl.rdG (10 - (k + 1)) false (m * 128 + s[k].toNat % 128) ((bl s).drop (k + 1)) := by
  have e : (bl s).drop k = s[k] :: (bl s).drop (k + 1) := by
    rw [List.drop_eq_getElem_cons (by rw [bl_length]; exact h)]; rfl
  rw [e, show 10 - k = (9 - k) + 1 from by omega, Pl.rdG, show 10 - (k + 1) = 9 - k from by omega]
  have h2 : (s[k] < 128) = (s[k].toNat < 128) := by rw [UInt8.lt_iff_toNat_lt]; rfl
  simp only [h2, Bool.false_eq_true, false_and, or_false]
theorem endF (s : ByteArray) (k m : Nat) (h : ¬ (k < 10 ∧ k < s.size)) : Pl.rdG (10 - k) false m ((bl s).drop k) = none := by
  by_cases hk : k < 10
  · rw [List.drop_of_length_le (by rw [bl_length]; omega), show 10 - k = (9 - k) + 1 from by omega]; rfl
  · rw [show 10 - k = 0 from by omega]; rfl

theorem Rd.num_ref (s : ByteArray) : (Rd.mk s false).num = match Pl.rdG 10 false 0 (bl s) with
    | some (n, l) => if Pl.num n = (bl s).take ((bl s).length - l.length) then (⟨ofL l, false⟩, n) else (⟨s, true⟩, 0)
    | none => (⟨s, true⟩, 0) := by
  rw [Rd.num, if_neg (by simp)]
  show (match Pl.rdNum (bl s) with | some (n, l) => ((⟨ofL l, false⟩ : Rd), n) | none => (⟨s, true⟩, 0)) = _
  rw [Pl.ref_reads (bl s) (fun n r h => (Pl.rdG_lt _ _ _ _ _ _ h).1)]
  cases h : Pl.rdG 10 false 0 (bl s) with
  | none => rfl
  | some x =>
    obtain ⟨n, r⟩ := x
    simp only
    by_cases hh : Pl.num n = (bl s).take ((bl s).length - r.length)
    · rw [if_pos hh, if_pos hh]
    · rw [if_neg hh, if_neg hh]

theorem refnum_is (x : Int) (n : Nat) (hx : x = n) (P : ByteArray) (hP : ofL (Pl.num n) = P) (b : Nat) (v : Value) (w0 w : World) (hw : w = w0.drew) (hb : b < w0.heap.size) (hc : w0.cell? ⟨b, 0, none⟩ = some v) (hn : n < 18446744073709551616) :
    Calls Tryz.prog 97 #[.int .u64 x] w fun e w' => e = .returned (.string P) ∧ Below w0.heap.size w0 w' ∧ w'.cell? ⟨b, 0, none⟩ = some v := by
  subst hx hP hw
  refine (refnum_any n _ hn).mono ?_
  rintro e w' ⟨rfl, h⟩
  have h2 : Below w0.heap.size w0 w' := (Below.refl _ _).drew.trans h
  exact ⟨rfl, h2, (h2.cell (p := ⟨b, 0, none⟩) hb).trans hc⟩

set_option maxRecDepth 100000 in
set_option maxHeartbeats 20000000 in
theorem refread_any (b : Nat) (r : Rd) (w : World) (hr : IsRr w b r) (hs : r.left.size ≤ 4611686018427387904) :
    Calls Tryz.prog 78 #[.pointer (some ⟨b, 0, none⟩)] w fun e w' => e = .returned (.int .u64 (r.num.2 : Nat)) ∧ IsRr w' b r.num.1 ∧ Kept b w w' := by
  obtain ⟨s, torn⟩ := r
  simp only at hs
  cases torn
  rotate_left
  · have e0 : (Rd.mk s true).num = (⟨s, true⟩, 0) := rfl
    rw [e0]; clear e0
    have c1 : w.cell? ⟨b, 1, none⟩ = some (.bool true) := hr.cell 1
    go_enter Tryz.func78, Tryz.ntmps78
    go_wp2_with fail
    go_ret
    exact ⟨rfl, hr, Kept.refl _ _⟩
  have hbl := hr.lt
  have c0 : w.cell? ⟨b, 0, none⟩ = some (.string s) := hr.cell 0
  have c1 : w.cell? ⟨b, 1, none⟩ = some (.bool false) := hr.cell 1
  have f0 : w.frozen? ⟨b, 0, none⟩ = false := hr.free 0
  have f1 : w.frozen? ⟨b, 1, none⟩ = false := hr.free 1
  have key := Rd.num_ref s
  obtain ⟨Q, hQ⟩ := nm ((Rd.mk s false).num)
  rw [← hQ.out] at key ⊢
  have KEY := Lib.hid key
  clear key
  go_enter Tryz.func78, Tryz.ntmps78
  go_wp2_with fail
  go_loop [3, 4] (fun v i => ∃ k m : Nat, k ≤ 10 ∧ k ≤ s.size ∧ i = .int .i64 (k : Int) ∧ v = .int .u64 (m : Int) ∧ m < 18446744073709551616 ∧ Hid (Pl.rdG 10 false 0 (bl s) = Pl.rdG (10 - k) false m ((bl s).drop k))) (fun _ i => 10 - (intOf i).toNat)
  case atStart => exact ⟨0, 0, by omega, by omega, rfl, rfl, by omega, rfl⟩
  case round =>
    obtain ⟨k, m, hk1, hk2, rfl, rfl, hm, hrel⟩ := hrel
    by_cases hlt : k < 10 ∧ k < s.size
    rotate_left
    · have HE : Hid (Q = (⟨s, true⟩, 0)) := by
        show _ = _
        rw [KEY.out, hrel.out, endF s k m hlt]
      go_wp2_with fail
      all_goals
        go_ret
        rw [HE.out]
        exact ⟨rfl, hr.setTorn _, (Kept.refl _ _).set _ _⟩
    obtain ⟨hlt1, hlt2⟩ := hlt
    have hst := stepF s k m hlt1 hlt2
    have h256 := s[k].toNat_lt
    by_cases hbad : 144115188075855872 ≤ m
    · rw [if_pos hbad] at hst
      have HE : Hid (Q = (⟨s, true⟩, 0)) := by
        show _ = _
        rw [KEY.out, hrel.out, hst]
      clear hst
      have hd : decide ((m : Int) > 144115188075855871) = true := decide_eq_true (by omega)
      have hd2 : decide (144115188075855871 < (m : Int)) = true := decide_eq_true (by omega)
      go_wp2_with fail
      go_ret
      rw [HE.out]
      exact ⟨rfl, hr.setTorn _, (Kept.refl _ _).set _ _⟩
    · rw [if_neg hbad] at hst
      have hd2 : decide (144115188075855871 < (m : Int)) = false := decide_eq_false (by omega)
      obtain ⟨n, hn⟩ := nm (m * 128 + s[k].toNat % 128)
      have hn64 : n < 18446744073709551616 := by rw [hn.out]; omega
      rw [← hn.out] at hst
      by_cases hc : s[k].toNat < 128
      · rw [if_pos hc] at hst
        have hlen : (bl s).length - ((bl s).drop (k + 1)).length = k + 1 := by rw [List.length_drop, bl_length]; omega
        have hq : Q = if Pl.num n = (bl s).take (k + 1) then (⟨ofL ((bl s).drop (k + 1)), false⟩, n) else (⟨s, true⟩, 0) := by
          rw [KEY.out, hrel.out, hst]
          simp only [hlen]
        clear hst hlen
        obtain ⟨P, hP⟩ := nm (ofL (Pl.num n))
        have hk0 : (0 : Int) ≤ (k : Int) := by omega
        have hk3 : (0 : Int) ≤ (k : Int) + 1 := by omega
        have hk4 : (k : Int) + 1 ≤ (s.size : Int) := by omega
        have hk5 : IntKind.i64.wrap ((k : Int) + 1) = (k : Int) + 1 := by rw [IntKind.wrap_i64]; omega
        have hex : bl (s.extract 0 (k + 1)) = (bl s).take (k + 1) := by rw [bl_extract]; simp
        have hX : s.extract (k + 1) s.size = ofL ((bl s).drop (k + 1)) := by
          refine bl_inj ?_
          rw [bl_extract, bl_ofL, List.take_of_length_le (by rw [List.length_drop, bl_length]; exact Nat.le_refl _)]
        have hnn : IntKind.u64.wrap ((m : Int) * 128 + (s[k].toNat : Int) % 128) = (n : Int) := by
          rw [hn.out, IntKind.wrap_u64]; omega
        by_cases hh : Pl.num n = (bl s).take (k + 1)
        · rw [if_pos hh, ← hX] at hq
          have hcmp : (P.toList == (s.extract 0 (k + 1)).toList) = true := by
            rw [toList_bl, toList_bl, hex, hP.out, bl_ofL, hh]; simp
          have HE := Lib.hid hq
          clear hq hh hex hX
          go_wp2_with fail
          go_region_held3 (fun w' => w'.cell? ⟨b, 0, none⟩ = some (.string s)) (first | assumption | go_keep)
            ((go_at_call 97; refine (refnum_is _ n rfl P hP.out.symm b _ w _ rfl hbl c0 hn64).mono ?_; rintro e w2 ⟨rfl, hB, g⟩))
          all_goals
            have hr2 := Blk.below hr hB hbl
            have f2 : w2.frozen? ⟨b, 0, none⟩ = false := hr2.free 0
            go_wp2_with fail
            go_ret
            rw [HE.out]
            exact ⟨rfl, IsRr.setLeft hr2 _, (Kept.ofBelow hB).set _ _⟩
        · rw [if_neg hh] at hq
          have hcmp : (P.toList == (s.extract 0 (k + 1)).toList) = false := by
            rw [toList_bl, toList_bl, hex, hP.out, bl_ofL]; simpa using hh
          have HE := Lib.hid hq
          clear hq hh hex hX
          go_wp2_with fail
          go_region_held3 (fun w' => w'.cell? ⟨b, 0, none⟩ = some (.string s)) (first | assumption | go_keep)
            ((go_at_call 97; refine (refnum_is _ n rfl P hP.out.symm b _ w _ rfl hbl c0 hn64).mono ?_; rintro e w2 ⟨rfl, hB, g⟩))
          all_goals
            have hr2 := Blk.below hr hB hbl
            have f2 : w2.frozen? ⟨b, 1, none⟩ = false := hr2.free 1
            have g2 : w2.cell? ⟨b, 1, none⟩ = some (.bool false) := hr2.cell 1
            go_wp2_with fail
            go_ret
            rw [HE.out]
            exact ⟨rfl, IsRr.setTorn hr2 _, (Kept.ofBelow hB).set _ _⟩
      · rw [if_neg hc] at hst
        have HE : Hid (Pl.rdG 10 false 0 (bl s) = Pl.rdG (10 - (k + 1)) false n ((bl s).drop (k + 1))) := Lib.hid (hrel.out.trans hst)
        clear hst
        go_wp2_with fail
        go_round
        case rel => exact ⟨k + 1, n, by omega, by omega, by go_num, congrArg _ (by rw [hn.out]; simp), hn64, HE⟩
        case measure => simp [intOf]; omega



set_option maxRecDepth 100000 in
set_option maxHeartbeats 1000000 in
theorem refrint_any (b : Nat) (r : Rd) (most : Int) (w : World) (hr : IsRr w b r) (hs : r.left.size ≤ 4611686018427387904) (hm : most ≤ 9223372036854775807) :
    Calls Tryz.prog 49 #[.pointer (some ⟨b, 0, none⟩), .int .i64 most] w fun e w' => e = .returned (.int .i64 ((r.int most).2 : Nat)) ∧ IsRr w' b (r.int most).1 ∧ Kept b w w' := by
  have hlt := r.num_lt.1
  have htn := r.num_torn
  obtain ⟨Q, hQ⟩ := nm (r.int most)
  rw [← hQ.out]
  obtain ⟨⟨⟨s, torn⟩, n⟩, hn⟩ := nm r.num
  have hqq : Q = if most < 0 ∨ most < n then (⟨s, true⟩, 0) else (⟨s, torn⟩, n) := by rw [hQ.out, Rd.int, ← hn.out]
  rw [← hn.out] at htn hlt
  simp only at htn hlt
  by_cases h0 : most < 0
  · rw [if_pos (Or.inl h0)] at hqq
    rw [hqq]; clear hqq
    go_enter Tryz.func49, Tryz.ntmps49
    go_wp2_with fail
    refine (refread_any b r w hr hs).mono ?_; rintro e w1 ⟨rfl, h1, h2⟩
    rw [← hn.out] at h1 ⊢
    have f1 : w1.frozen? ⟨b, 1, none⟩ = false := h1.free 1
    have c1 : w1.cell? ⟨b, 1, none⟩ = some (.bool torn) := h1.cell 1
    go_wp2_with fail
    go_ret
    exact ⟨rfl, h1.setTorn _, h2.set _ _⟩
  · obtain ⟨M, rfl⟩ : ∃ M : Nat, most = M := ⟨most.toNat, by omega⟩
    by_cases h1 : M < n
    · rw [if_pos (Or.inr (by omega))] at hqq
      rw [hqq]; clear hqq
      go_enter Tryz.func49, Tryz.ntmps49
      go_wp2_with fail
      refine (refread_any b r w hr hs).mono ?_; rintro e w1 ⟨rfl, h1, h2⟩
      rw [← hn.out] at h1 ⊢
      have f1 : w1.frozen? ⟨b, 1, none⟩ = false := h1.free 1
      have c1 : w1.cell? ⟨b, 1, none⟩ = some (.bool torn) := h1.cell 1
      go_wp2_with fail
      go_ret
      exact ⟨rfl, h1.setTorn _, h2.set _ _⟩
    · rw [if_neg (by omega)] at hqq
      rw [hqq]; clear hqq
      cases torn
      · go_enter Tryz.func49, Tryz.ntmps49
        go_wp2_with fail
        refine (refread_any b r w hr hs).mono ?_; rintro e w1 ⟨rfl, h1, h2⟩
        rw [← hn.out] at h1 ⊢
        have c1 : w1.cell? ⟨b, 1, none⟩ = some (.bool false) := h1.cell 1
        go_wp2_with fail
        go_ret
        exact ⟨rfl, h1, h2⟩
      · obtain rfl : n = 0 := htn rfl
        go_enter Tryz.func49, Tryz.ntmps49
        go_wp2_with fail
        refine (refread_any b r w hr hs).mono ?_; rintro e w1 ⟨rfl, h1, h2⟩
        rw [← hn.out] at h1 ⊢
        have c1 : w1.cell? ⟨b, 1, none⟩ = some (.bool true) := h1.cell 1
        go_wp2_with fail
        go_ret
        exact ⟨rfl, h1, h2⟩



set_option maxRecDepth 100000 in
set_option maxHeartbeats 1000000 in
theorem refrtext_any (b : Nat) (r : Rd) (most : Int) (w : World) (hr : IsRr w b r) (hs : r.left.size ≤ 4611686018427387904) (hm : most ≤ 9223372036854775807) :
    Calls Tryz.prog 20 #[.pointer (some ⟨b, 0, none⟩), .int .i64 most] w fun e w' => e = .returned (.string (r.text most).2) ∧ IsRr w' b (r.text most).1 ∧ Kept b w w' := by
  obtain ⟨i1, i2, i3⟩ := r.int_lt most
  obtain ⟨Q, hQ⟩ := nm (r.text most)
  rw [← hQ.out]
  obtain ⟨⟨⟨s, torn⟩, n⟩, hn⟩ := nm (r.int most)
  rw [← hn.out] at i1 i2 i3
  simp only at i1 i2 i3
  have hqq : Q = if torn = true ∨ s.size < n then (⟨s, true⟩, ⟨#[]⟩) else (⟨s.extract n s.size, false⟩, s.extract 0 n) := by rw [hQ.out, Rd.text, ← hn.out]
  have hn63 : n ≤ 9223372036854775807 := by omega
  cases torn
  · by_cases hsz : s.size < n
    · rw [if_pos (Or.inr hsz)] at hqq
      rw [hqq]; clear hqq
      go_enter Tryz.func20, Tryz.ntmps20
      go_wp2_with fail
      refine (refrint_any b r most w hr hs hm).mono ?_; rintro e w1 ⟨rfl, h1, h2⟩
      rw [← hn.out] at h1 ⊢
      have c0 : w1.cell? ⟨b, 0, none⟩ = some (.string s) := h1.cell 0
      have c1 : w1.cell? ⟨b, 1, none⟩ = some (.bool false) := h1.cell 1
      have f1 : w1.frozen? ⟨b, 1, none⟩ = false := h1.free 1
      go_wp2_with fail
      go_ret
      exact ⟨rfl, h1.setTorn _, h2.set _ _⟩
    · rw [if_neg (by simp; omega)] at hqq
      rw [hqq]; clear hqq
      go_enter Tryz.func20, Tryz.ntmps20
      go_wp2_with fail
      refine (refrint_any b r most w hr hs hm).mono ?_; rintro e w1 ⟨rfl, h1, h2⟩
      rw [← hn.out] at h1 ⊢
      have c0 : w1.cell? ⟨b, 0, none⟩ = some (.string s) := h1.cell 0
      have c1 : w1.cell? ⟨b, 1, none⟩ = some (.bool false) := h1.cell 1
      have f0 : w1.frozen? ⟨b, 0, none⟩ = false := h1.free 0
      go_wp2_with fail
      go_ret
      exact ⟨rfl, h1.setLeft _, h2.set _ _⟩
  · rw [if_pos (Or.inl rfl)] at hqq
    rw [hqq]; clear hqq
    go_enter Tryz.func20, Tryz.ntmps20
    go_wp2_with fail
    refine (refrint_any b r most w hr hs hm).mono ?_; rintro e w1 ⟨rfl, h1, h2⟩
    rw [← hn.out] at h1 ⊢
    have c1 : w1.cell? ⟨b, 1, none⟩ = some (.bool true) := h1.cell 1
    have f1 : w1.frozen? ⟨b, 1, none⟩ = false := h1.free 1
    go_wp2_with fail
    go_ret
    exact ⟨rfl, h1.setTorn _, h2.set _ _⟩

set_option maxRecDepth 100000 in
set_option maxHeartbeats 1000000 in
theorem refrend_any (b : Nat) (r : Rd) (w : World) (hr : IsRr w b r) :
    Calls Tryz.prog 24 #[.pointer (some ⟨b, 0, none⟩)] w fun e w' => e = .returned (.int .i64 r.fin) ∧ w = w' := by
  obtain ⟨s, torn⟩ := r
  have c0 : w.cell? ⟨b, 0, none⟩ = some (.string s) := hr.cell 0
  have c1 : w.cell? ⟨b, 1, none⟩ = some (.bool torn) := hr.cell 1
  cases torn
  · by_cases hz : s.size = 0
    · obtain rfl := size_zero hz
      rw [show (Rd.mk ⟨#[]⟩ false).fin = 0 from rfl]
      go_enter Tryz.func24, Tryz.ntmps24
      go_wp2_with fail
      go_ret
      exact ⟨rfl, rfl⟩
    · have hni : s.toList.isEmpty = false := by
        rw [toList_bl, List.isEmpty_eq_false_iff]
        intro h
        rw [← bl_length, h] at hz
        exact hz rfl
      rw [show (Rd.mk s false).fin = 10 from by simp [Rd.fin, hz]]
      go_enter Tryz.func24, Tryz.ntmps24
      go_wp2_with fail
      go_ret
      exact ⟨rfl, rfl⟩
  · rw [show (Rd.mk s true).fin = 10 from by simp [Rd.fin]]
    go_enter Tryz.func24, Tryz.ntmps24
    go_wp2_with fail
    go_ret
    exact ⟨rfl, rfl⟩



theorem Kept.owns {b base : Nat} {w w' : World} {v : Value} {zs : List Int} (hk : Kept b w w') (h : w.ownsRow base 3 1 v zs.length (zs.map (Value.int .i64))) (hb : b < base) : w'.ownsRow base 3 1 v zs.length (zs.map (Value.int .i64)) := by
  have hg : w.grownBy w' (some b) := ⟨hk.os, hk.tape, hk.output, hk.size, fun k hk' hne => hk.block k hk' (fun e => hne (by rw [e]))⟩
  refine h.kept hg ?_
  cases hv : v.ownBlock with
  | none => exact .inl rfl
  | some g =>
    right
    intro e
    have := (h.lt g hv).1
    cases e
    omega

set_option maxRecDepth 100000 in
set_option maxHeartbeats 4000000 in
theorem refrnums_any (b : Nat) (r : Rd) (many most : Int) (w : World) (hr : IsRr w b r) (hs : r.left.size ≤ 1000000) (hm : many ≤ 9223372036854775807) (hm2 : most ≤ 9223372036854775807) :
    Calls Tryz.prog 19 #[.pointer (some ⟨b, 0, none⟩), .int .i64 many, .int .i64 most] w fun e w' =>
      ∃ ao cap, e = .returned (.slice ao (r.nums many most).2.length cap) ∧ (r.nums many most).2.length ≤ cap ∧ SlAt w' ao ((r.nums many most).2.map (Value.int .i64)) ∧ IsRr w' b (r.nums many most).1 ∧ Kept b w w' := by
  have hbl := hr.lt
  obtain ⟨i1, i2, i3⟩ := r.int_lt many
  have i4 := r.int_torn0 many
  have i5 := r.int_uses many
  obtain ⟨q, hq⟩ := nm (r.int many).1
  obtain ⟨n, hn⟩ := nm (r.int many).2
  rw [← hq.out] at i2 i4 i5
  rw [← hn.out] at i1 i3 i4
  have hn63 : n ≤ 9223372036854775807 := by omega
  obtain ⟨Q, hQ⟩ := nm (r.nums many most)
  have hq2 : Q = ((Rd.items most n q).1, (Rd.items most n q).2.getD []) := by rw [hQ.out, Rd.nums, hn.out, hq.out]
  rw [← hQ.out]
  have HQ := Lib.hid hq2
  clear hq2
  have I4 := Lib.hid i4
  clear i4 i5 i3
  obtain ⟨i0, hi, hz0, hz1, hz2⟩ := info_parts infoInt
  go_enter Tryz.func19, Tryz.ntmps19
  go_wp2_with fail
  refine (refrint_any b r many _ hr (by omega) hm).mono ?_; rintro e w1 ⟨rfl, h1, hk⟩
  rw [← hq.out] at h1
  rw [← hn.out]
  go_wp2_with fail
  go_loopw [8, 9] (fun v i wr => ∃ (k : Nat) (ri : Rd) (zs : List Int), k ≤ n ∧ i = .int .i64 (k : Int) ∧ zs.length = k ∧ IsRr wr b ri ∧ wr.ownsRow w.heap.size 3 1 v zs.length (zs.map (Value.int .i64)) ∧ Kept b w wr ∧
    ri.left.size + k ≤ 1000000 + 1 ∧ Hid ((ri.torn = true → Q = (ri, [])) ∧ (ri.torn = false → ri.left.size + k ≤ 1000000 ∧ Rd.items most n q = ((Rd.items most (n - k) ri).1, (Rd.items most (n - k) ri).2.map (zs ++ ·))))) (fun _ i _ => n - (intOf i).toNat)
  case atStart =>
    refine ⟨0, q, [], by omega, rfl, rfl, h1, ⟨rfl, .inl ⟨rfl, rfl⟩⟩, hk, by omega, ⟨fun ht => ?_, fun _ => ⟨by omega, by simp⟩⟩⟩
    rw [HQ.out, I4.out ht]; rfl
  case round =>
    clear h1 hk
    obtain ⟨k, ri, zs, hkn, rfl, hz, hR, hown, hK, hsz, hI⟩ := hrel
    obtain ⟨hI1, hI2⟩ := hI.out
    clear hI
    have htt : ri.torn = false ∨ ri.torn = true := by cases ri.torn <;> simp
    have c1 : wr.cell? ⟨b, 1, none⟩ = some (.bool ri.torn) := hR.cell 1
    rcases htt with htt | htt
    · rw [htt] at c1
      obtain ⟨hsz2, hI⟩ := hI2 htt
      clear hI1 hI2
      have HI0 := Lib.hid hI
      clear hI
      by_cases hlt : k < n
      · obtain ⟨e1, e2, e3⟩ := ri.int_lt most
        have u1 := ri.int_uses most
        have hst : Rd.items most (n - k) ri = if (ri.int most).1.torn then ((ri.int most).1, none) else ((Rd.items most (n - (k + 1)) (ri.int most).1).1, (Rd.items most (n - (k + 1)) (ri.int most).1).2.map (((ri.int most).2 : Int) :: ·)) := by
          rw [show n - k = (n - (k + 1)) + 1 from by omega, Rd.items]
        obtain ⟨rj, hj⟩ := nm (ri.int most).1
        obtain ⟨z, hzz⟩ := nm (ri.int most).2
        have HIN : Hid ((rj.torn = true → Q = (rj, [])) ∧ (rj.torn = false → rj.left.size + (k + 1) ≤ 1000000 ∧ Rd.items most n q = ((Rd.items most (n - (k + 1)) rj).1, (Rd.items most (n - (k + 1)) rj).2.map ((zs ++ [(z : Int)]) ++ ·)))) := by
          rw [← hj.out] at hst u1
          rw [← hzz.out] at hst
          refine ⟨fun ht => ?_, fun ht => ⟨by have := (u1 ht).2; omega, ?_⟩⟩
          · rw [ht, if_pos rfl] at hst
            rw [HQ.out, HI0.out, hst]; rfl
          · rw [ht, if_neg (by decide)] at hst
            rw [HI0.out, hst]
            simp only [Option.map_map]
            congr 2
            funext l
            simp
        rw [← hj.out] at e2
        clear hst u1 HI0
        obtain ⟨L, hL⟩ := nm (zs.map (Value.int .i64))
        go_wp2_with fail
        refine (refrint_any b ri most _ hR (by omega) hm2).mono ?_; rintro e w2 ⟨rfl, hR2, hk2⟩
        rw [← hj.out] at hR2
        rw [← hzz.out]
        replace hown := hk2.owns hown hbl
        replace hK := hK.trans hk2
        clear hR hk2 c1
        have hks := hK.size
        rw [← hL.out] at hown
        go_wp2_with (at_builtin; refine wpList_append_lies _ rfl _ _ 46 rfl w.heap.size 3 i0 (.int .i64 0) 1 8 Tryz.underlying46 hi hz0 hz1 hz2 rfl (by decide) _ zs.length _ rfl (hown.alloc _) ⟨w2.heap.size, 0, none⟩ 1 1 [.int .i64 z] rfl rfl (World.news_of_block (heap_alloc_new w2 _)) (by simp [Value.oneCell']) (by decide) (by unfold maxLen; omega) (by omega) (Nat.le_trans hks (by simp)) _ rfl ?_)
        intro g cap2 w3 hown2 hgrow _ _
        have hR3 := grown_blk hgrow (hR2.alloc _) (fun e => by have := (hown.lt b e.symm).1; omega)
        have hK3 : Kept b w w3 :=
          ⟨hgrow.os.trans hK.os, hgrow.tape.trans hK.tape, hgrow.output.trans hK.output, Nat.le_trans (Nat.le_trans hks (by simp)) hgrow.size, fun i hi' hb' =>
            (hgrow.block i (by simp; omega) (by intro e; have := (hown.lt i e.symm).1; omega)).trans ((Below.heap_alloc _ _ _ (by omega)).trans (hK.block i hi' hb'))⟩
        have hown3 : w3.ownsRow w.heap.size 3 1 (.slice (some ⟨g, 0, none⟩) (k + 1) cap2) (zs ++ [(z : Int)]).length ((zs ++ [(z : Int)]).map (Value.int .i64)) := by
          rw [List.length_append, List.map_append, ← hL.out, List.length_singleton, hz]; exact hown2
        clear hown hown2 hgrow hK hR2
        go_wp2_with fail
        go_roundw
        case rel => exact ⟨k + 1, rj, zs ++ [(z : Int)], by omega, by go_num, by simp [hz], hR3, hown3, hK3, by omega, HIN⟩
        case measure => simp [intOf]; omega
      · obtain rfl : k = n := by omega
        have HE : Hid (Q = (ri, zs)) := by
          show _ = _
          rw [HQ.out, HI0.out, Nat.sub_self]
          simp [Rd.items]
        obtain ⟨ao, cap, rfl, hcap, hsl⟩ := SlAt.own hown
        go_wp2_with fail
        go_ret
        rw [HE.out]
        exact ⟨ao, cap, rfl, hcap, hsl, hR, hK⟩
    · rw [htt] at c1
      have HE := Lib.hid (hI1 htt)
      clear hI1 hI2
      go_wp2_with fail
      all_goals
        go_ret
        rw [HE.out]
        exact ⟨none, 0, rfl, Nat.le_refl _, (fun k hk => by simp at hk), hR, hK⟩
end Go.Proofs.YtfpjdmplepepjaaGreat
