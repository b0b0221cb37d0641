/- The walks of fold.begun and fold.Cut. -/
import Derived.Test.YtkglfnjgneofdaaDoorFoldPlain
import Derived.Test.YtkglfnjgneofdaaDoorReaderB
import Derived.OwnWalk
namespace Go.Proofs.YtkglfnjgneofdaaDoor
open Go.RowKit

theorem bl_one (s : ByteArray) (h : s.size = 1) : bl s = [s[0]] := by
  have hl : (bl s).length = 1 := by rw [bl_length]; exact h
  obtain ⟨c, hc⟩ := List.length_eq_one_iff.1 hl
  have h0 : (bl s)[0]? = some s[0] := by
    show s.data.toList[0]? = _
    rw [List.getElem?_eq_getElem (by show 0 < (bl s).length; omega)]
    rfl
  rw [hc] at h0 ⊢
  cases h0
  rfl

set_option maxRecDepth 100000 in
set_option maxHeartbeats 400000 in
theorem begun_any (s : ByteArray) (w : World) :
    Calls Tryd.prog 67 #[.string s] w fun e w' => e = .returned (.bool (begL (bl s))) ∧ w = w' := by
  rcases Nat.lt_or_ge s.size 1 with h | h
  · obtain rfl := size_zero (s := s) (by omega)
    rw [show begL (bl ⟨#[]⟩) = true from rfl]
    go_enter Tryd.func67, Tryd.ntmps67
    go_wp2_with fail
    go_ret
    exact ⟨rfl, rfl⟩
  · have hni : s.toList.isEmpty = false := by
      rw [toList_bl, List.isEmpty_eq_false_iff]
      intro h2
      rw [← bl_length, h2] at h
      exact absurd h (by decide)
    by_cases h1 : s.size = 1
    · have hlt : 0 < s.size := by omega
      have h256 := s[0].toNat_lt
      have hB : begL (bl s) = decide (128 < s[0].toNat ∧ (s[0].toNat - 128) * 128 ≤ 8000) := by rw [bl_one s h1]; rfl
      by_cases h2 : 128 < s[0].toNat
      · have hw : IntKind.u8.wrap ((s[0].toNat : Int) - 128) = ((s[0].toNat - 128 : Nat) : Int) := by rw [IntKind.wrap_u8]; omega
        obtain ⟨K, hK⟩ := nm (s[0].toNat - 128)
        rw [← hK.out] at hw hB
        have hK2 : K < 128 := by rw [hK.out]; omega
        by_cases h3 : K * 128 ≤ 8000
        · rw [decide_eq_true ⟨h2, h3⟩] at hB
          rw [hB]
          have hd : decide ((K : Int) * 128 ≤ 8000) = true := decide_eq_true (by omega)
          clear hB
          go_enter Tryd.func67, Tryd.ntmps67
          go_wp2_with fail
          go_ret
          exact ⟨rfl, rfl⟩
        · rw [decide_eq_false (by omega)] at hB
          rw [hB]
          have hd : decide ((K : Int) * 128 ≤ 8000) = false := decide_eq_false (by omega)
          clear hB
          go_enter Tryd.func67, Tryd.ntmps67
          go_wp2_with fail
          go_ret
          exact ⟨rfl, rfl⟩
      · rw [decide_eq_false (by omega)] at hB
        rw [hB]
        clear hB
        go_enter Tryd.func67, Tryd.ntmps67
        go_wp2_with fail
        go_ret
        exact ⟨rfl, rfl⟩
    · have hB : begL (bl s) = false := by
        rcases e : bl s with _ | ⟨a, _ | ⟨b, t⟩⟩
        · rw [← bl_length, e] at h; exact absurd h (by decide)
        · rw [← bl_length, e] at h1; exact absurd rfl h1
        · rfl
      rw [hB]
      clear hB
      go_enter Tryd.func67, Tryd.ntmps67
      go_wp2_with fail
      go_ret
      exact ⟨rfl, rfl⟩

theorem fine_is' (t f : Bool) (hf : f = !t) (b : Nat) (s : ByteArray) (w : World) (hr : IsRd w b ⟨s, t⟩) :
    Calls Tryd.prog 66 #[.pointer (some ⟨b, 0, none⟩)] w fun e w' => e = .returned (.bool f) ∧ w = w' := by subst hf; exact fine_any b _ w hr

theorem left_is (b : Nat) (s : ByteArray) (w : World) (hr : IsRd w b ⟨s, false⟩) :
    Calls Tryd.prog 68 #[.pointer (some ⟨b, 0, none⟩)] w fun e w' => e = .returned (.string s) ∧ w = w' := rleft_any b _ w hr

/-- What Int makes of a text, and what Cut then tells. -/
theorem int_cut (s : ByteArray) :
    (((Rd.mk s false).int 8000).1.torn = true ∧ cutL (bl s) = ([], 0, if begL (bl s) then 12 else 10)) ∨
    ∃ (n : Nat) (t : ByteArray), (Rd.mk s false).int 8000 = (⟨t, false⟩, n) ∧ n ≤ 8000 ∧ bl s = Pl.num n ++ bl t ∧
      cutL (bl s) = if t.size < n + 2 then ([], 0, 12) else if (bl s).take (frameL ((bl t).take n)).length = frameL ((bl t).take n) then ((bl t).take n, (frameL ((bl t).take n)).length, 0) else ([], 0, 10) := by
  have h0 : (Rd.mk s false).num = match Pl.rdNum (bl s) with
      | some (n, l) => (⟨ofL l, false⟩, n)
      | none => (⟨s, true⟩, 0) := by rw [Rd.num, if_neg (by simp)]; rfl
  rw [Rd.int, h0]
  clear h0
  cases h : Pl.rdNum (bl s) with
  | none =>
    left
    simp only
    refine ⟨by simp, ?_⟩
    rw [cutL, h]
  | some x =>
    obtain ⟨n, l⟩ := x
    simp only
    by_cases h8 : 8000 < n
    · left
      refine ⟨by rw [if_pos (by omega)], ?_⟩
      rw [cutL, h]
      simp only
      rw [if_pos h8]
    · right
      refine ⟨n, ofL l, by rw [if_neg (by omega)], by omega, ?_, ?_⟩
      · rw [bl_ofL]; exact Pl.rdNum_is _ _ _ (by omega) h
      · rw [cutL, h]
        simp only
        rw [if_neg h8, ofL_size, bl_ofL]

set_option maxRecDepth 100000 in
set_option maxHeartbeats 1000000 in
theorem cut_any (s : ByteArray) (w : World) (hs : s.size ≤ 1000000) (ht : Tab w) :
    Calls Tryd.prog 53 #[.string s] w fun e w' => e = .returned (.tuple #[.string (ofL (cutL (bl s)).1), .int .i64 ((cutL (bl s)).2.1 : Nat), .int .i64 (cutL (bl s)).2.2]) ∧ Below w.heap.size w w' := by
  have HT : Hid (Tab w) := ht
  clear ht
  have hk : Below w.heap.size w (w.alloc (.cells (Rd.cells ⟨s, false⟩) 95)) := (Below.refl _ _).alloc (Nat.le_refl _) _
  have hb0 : IsRd (w.alloc (.cells (Rd.cells ⟨s, false⟩) 95)) w.heap.size ⟨s, false⟩ := Blk.new _ _ _
  rcases int_cut s with ⟨h1, h2⟩ | ⟨n, t, h1, hn, hst, h2⟩
  · rw [h2]
    clear h2
    obtain ⟨⟨⟨t, torn⟩, n⟩, hn⟩ := nm ((Rd.mk s false).int 8000)
    rw [← hn.out] at h1
    simp only at h1
    subst h1
    obtain ⟨B, hB⟩ := nm (begL (bl s))
    rw [← hB.out]
    cases B
    all_goals
      go_enter Tryd.func53, Tryd.ntmps53
      go_wp2_with fail
      refine (read_any s _).mono ?_; rintro e w1 ⟨rfl, rfl⟩
      go_wp2_with fail
      refine (rint_any _ _ 8000 _ hb0 (by simp only; omega) (by decide)).mono ?_; rintro e w2 ⟨rfl, h1, hk2⟩
      rw [← hn.out] at h1 ⊢
      have hB2 : Below w.heap.size w w2 := hk.trans (hk2.below (Nat.le_refl _) (by simp))
      go_wp2_with (go_at_call 66; refine (fine_is' true false rfl _ t w2 h1).mono ?_; rintro e w3 ⟨rfl, rfl⟩)
      refine (begun_any s _).mono ?_; rintro e w3 ⟨rfl, rfl⟩
      rw [← hB.out]
      first
        | (go_wp2_with fail; go_ret3; exact ⟨rfl, hB2⟩)
        | (go_wp2_with (go_at_call 66; refine (fine_is' true false rfl _ t w2 h1).mono ?_; rintro e w3 ⟨rfl, rfl⟩)
           go_ret3
           exact ⟨rfl, hB2⟩)
  · have hsz : s.size = Pl.nd n + t.size := by rw [← bl_length, hst, List.length_append, Pl.num_length, bl_length]
    clear hst
    have N := Lib.hid h1
    clear h1
    by_cases hlt : t.size < n + 2
    · rw [if_pos hlt] at h2
      rw [h2]
      clear h2
      go_enter Tryd.func53, Tryd.ntmps53
      go_wp2_with fail
      refine (read_any s _).mono ?_; rintro e w1 ⟨rfl, rfl⟩
      go_wp2_with fail
      refine (rint_any _ _ 8000 _ hb0 (by simp only; omega) (by decide)).mono ?_; rintro e w2 ⟨rfl, h1, hk2⟩
      rw [N.out] at h1 ⊢
      have hB2 : Below w.heap.size w w2 := hk.trans (hk2.below (Nat.le_refl _) (by simp))
      go_wp2_with (go_at_call 66; refine (fine_is' false true rfl _ t w2 h1).mono ?_; rintro e w3 ⟨rfl, rfl⟩)
      refine (left_is _ t w2 h1).mono ?_; rintro e w3 ⟨rfl, rfl⟩
      go_wp2_with fail
      go_ret3
      exact ⟨rfl, hB2⟩
    · rw [if_neg hlt] at h2
      have hex : t.extract 0 n = ofL ((bl t).take n) := bl_inj (by rw [bl_extract, bl_ofL]; simp)
      obtain ⟨b, hb⟩ := nm (ofL ((bl t).take n))
      have hbb : bl b = (bl t).take n := by rw [hb.out, bl_ofL]
      have hbl : (bl b).length = n := by rw [hbb, List.length_take, bl_length]; omega
      rw [← hbb] at h2
      rw [← hb.out] at hex
      clear hb hbb
      have hfl := frame_length (bl b)
      rw [hbl] at hfl
      obtain ⟨f, hf⟩ := nm (ofL (frameL (bl b)))
      have hfb : frameL (bl b) = bl f := by rw [hf.out, bl_ofL]
      rw [hfb, bl_length] at hfl h2
      have hfs : f.size ≤ s.size := by omega
      have hexs : (s.extract 0 f.size).toList = (bl s).take f.size := by rw [toList_bl, bl_extract]; simp
      have hbs : b.size ≤ 8000 := by rw [← bl_length, hbl]; exact hn
      by_cases hq : (bl s).take f.size = bl f
      · rw [if_pos hq] at h2
        rw [h2]
        clear h2
        have hcmp : ((s.extract 0 f.size).toList == f.toList) = true := by rw [hexs, hq, toList_bl]; simp
        clear hexs hq hfb hbl hfl hsz
        go_enter Tryd.func53, Tryd.ntmps53
        go_wp2_with fail
        refine (read_any s _).mono ?_; rintro e w1 ⟨rfl, rfl⟩
        go_wp2_with fail
        refine (rint_any _ _ 8000 _ hb0 (by simp only; omega) (by decide)).mono ?_; rintro e w2 ⟨rfl, h1, hk2⟩
        rw [N.out] at h1 ⊢
        have hB2 : Below w.heap.size w w2 := hk.trans (hk2.below (Nat.le_refl _) (by simp))
        go_wp2_with (go_at_call 66; refine (fine_is' false true rfl _ t w2 h1).mono ?_; rintro e w3 ⟨rfl, rfl⟩)
        refine (left_is _ t w2 h1).mono ?_; rintro e w3 ⟨rfl, rfl⟩
        go_wp2_with fail
        refine (left_is _ t w2 h1).mono ?_; rintro e w3 ⟨rfl, rfl⟩
        go_wp2_with fail
        refine (frame_any b w2 (by omega) (HT.out.below hB2)).mono ?_; rintro e w3 ⟨rfl, hB3⟩
        rw [← hf.out]
        go_wp2_with fail
        go_ret3
        exact ⟨rfl, bNext hB2 hB3⟩
      · rw [if_neg hq] at h2
        rw [h2]
        clear h2
        have hcmp : ((s.extract 0 f.size).toList == f.toList) = false := by rw [hexs, toList_bl]; simpa using hq
        clear hexs hq hfb hbl hfl hsz
        go_enter Tryd.func53, Tryd.ntmps53
        go_wp2_with fail
        refine (read_any s _).mono ?_; rintro e w1 ⟨rfl, rfl⟩
        go_wp2_with fail
        refine (rint_any _ _ 8000 _ hb0 (by simp only; omega) (by decide)).mono ?_; rintro e w2 ⟨rfl, h1, hk2⟩
        rw [N.out] at h1 ⊢
        have hB2 : Below w.heap.size w w2 := hk.trans (hk2.below (Nat.le_refl _) (by simp))
        go_wp2_with (go_at_call 66; refine (fine_is' false true rfl _ t w2 h1).mono ?_; rintro e w3 ⟨rfl, rfl⟩)
        refine (left_is _ t w2 h1).mono ?_; rintro e w3 ⟨rfl, rfl⟩
        go_wp2_with fail
        refine (left_is _ t w2 h1).mono ?_; rintro e w3 ⟨rfl, rfl⟩
        go_wp2_with fail
        refine (frame_any b w2 (by omega) (HT.out.below hB2)).mono ?_; rintro e w3 ⟨rfl, hB3⟩
        rw [← hf.out]
        go_wp2_with fail
        go_ret3
        exact ⟨rfl, bNext hB2 hB3⟩

end Go.Proofs.YtkglfnjgneofdaaDoor
