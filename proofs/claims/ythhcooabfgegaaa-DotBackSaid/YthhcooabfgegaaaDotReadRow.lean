/- Rows of names are read: the program's ReadRow. -/
import Derived.Test.YthhcooabfgegaaaDotRead
namespace Go.Proofs.Ythhcooabfgegaaa
open Go.RowKit Go.Shelf Go.Lib Go.Sort

/-- So many names are read. -/
def Rd.dots : Nat → Rd → Rd × Option (List (Int × Int))
  | 0, r => (r, some [])
  | k + 1, r => if r.dot.1.torn then (r.dot.1, none) else ((Rd.dots k r.dot.1).1, (Rd.dots k r.dot.1).2.map (r.dot.2 :: ·))
/-- A row is read. -/
def Rd.row (r : Rd) (most : Int) : Rd × List (Int × Int) :=
  match Rd.dots (r.int most).2 (r.int most).1 with
  | (q, some l) => if q.torn = true ∨ ¬ Asc l then (⟨q.left, true⟩, []) else (q, l)
  | (q, none) => (⟨q.left, true⟩, [])

theorem Rd.num_uses (r : Rd) (h : r.num.1.torn = false) : r.torn = false ∧ r.num.1.left.size + 1 ≤ r.left.size := by
  unfold Rd.num at h ⊢
  split at h
  · rename_i ht; simp only at h; rw [ht] at h; cases h
  · rename_i ht
    rw [if_neg ht]
    split at h
    · rename_i n l hq
      have h2 := (Pl.rdG_lt _ _ _ _ _ _ hq).2
      rw [bl_length] at h2
      exact ⟨by simpa using ht, by simp only [ofL_size]; omega⟩
    · cases h
theorem Rd.int_uses (r : Rd) (m : Int) (h : (r.int m).1.torn = false) : r.torn = false ∧ (r.int m).1.left.size + 1 ≤ r.left.size := by
  unfold Rd.int at h ⊢
  split at h
  · cases h
  · rename_i hc
    rw [if_neg hc]
    exact r.num_uses h
theorem Rd.dot_uses (r : Rd) (h : r.dot.1.torn = false) : r.torn = false ∧ r.dot.1.left.size + 1 ≤ r.left.size := by
  unfold Rd.dot at h ⊢
  split at h
  · cases h
  · rename_i hc
    rw [if_neg hc]
    simp only at h ⊢
    obtain ⟨h1, h2⟩ := Rd.int_uses _ _ h
    obtain ⟨h3, h4⟩ := Rd.int_uses _ _ h1
    exact ⟨h3, by omega⟩
theorem Rd.dot_in (r : Rd) : InD r.dot.2 := by
  unfold Rd.dot
  split
  · exact ⟨show (0 : Int) ≤ 9223372036854775807 by decide, show (0 : Int) ≤ 9223372036854775807 by decide⟩
  · have h1 := (r.int_lt 1099511627776).2.2
    have h2 := ((r.int 1099511627776).1.int_lt 1099511627776).2.2
    simp only
    exact ⟨by simp only; omega, by simp only; omega⟩

theorem Kept.own {b base : Nat} {w w' : World} {t : TypeId} {v : Value} {ps : List (Int × Int)} (hk : Kept b w w') (h : OwnP w base t v ps) (hb : b < base) : OwnP w' base t v ps := by
  have hg : w.grownBy w' (some b) := ⟨hk.os, hk.tape, hk.output, hk.size, fun k hk' hne => hk.block k hk' (fun e => hne (by rw [e]))⟩
  refine h.kept hg ?_
  cases hv : v.ownBlock with
  | none => exact .inl rfl
  | some g =>
    right
    intro e
    have := (World.ownsRow.lt h g hv).1
    cases e
    omega
theorem Kept.grownP {b base : Nat} {w a c : World} {t : TypeId} {v : Value} {ps : List (Int × Int)} (hk : Kept b w a) (h : OwnP a base t v ps) (hb : w.heap.size ≤ base) (hg : a.grownBy c v.ownBlock) : Kept b w c :=
  ⟨hg.os.trans hk.os, hg.tape.trans hk.tape, hg.output.trans hk.output, Nat.le_trans hk.size hg.size, fun k hk' hne => by
    rw [hg.block k (Nat.lt_of_lt_of_le hk' hk.size) (by intro e; have := (World.ownsRow.lt h k e.symm).1; omega)]
    exact hk.block k hk' hne⟩
theorem Blk.grownP {a c : World} {base k : Nat} {cs : Array Value} {t t' : TypeId} {v : Value} {ps : List (Int × Int)} (hb : Blk a k cs t') (h : OwnP a base t v ps) (hk : k < base) (hg : a.grownBy c v.ownBlock) : Blk c k cs t' :=
  (hg.block k hb.lt (by intro e; have := (World.ownsRow.lt h k e.symm).1; omega)).trans hb

theorem rises_is (ao : Option Addr) (ps : List (Int × Int)) (n cap : Nat) (hn : Hid (ps.length = n)) (hm : n ≤ 1000000000) (r : Bool) (hr : Hid (r = decide (Asc ps))) (w : World) (hs : SlP w ao ps) :
    Calls Try.prog 15 #[.slice ao n cap] w fun e w' => e = .returned (.bool r) ∧ Below w.heap.size w w' := rises_any ao ps n cap hn hm w hs r hr

/-- What dot.ReadRow tells. -/
def RowTells (b : Nat) (r : Rd) (most : Int) (w : World) (e : Ending) (w' : World) : Prop :=
  ∃ ao cap, e = .returned (.slice ao (r.row most).2.length cap) ∧ (SlP w' ao (r.row most).2 ∧ ∀ a, ao = some a → w.heap.size ≤ a.block) ∧ (∃ r', IsRd w' b r' ∧ r'.torn = (r.row most).1.torn ∧ ((r.row most).1.torn = false → r' = (r.row most).1)) ∧ Kept b w w'

set_option maxRecDepth 100000 in
set_option maxHeartbeats 4000000 in
theorem readrow_any (b : Nat) (r : Rd) (most : Int) (w : World) (hr : IsRd w b r) (hs : r.left.size ≤ 1000000) (hm : most ≤ 9223372036854775807) :
    Calls Try.prog 35 #[.pointer (some ⟨b, 0, none⟩), .int .i64 most] w (RowTells b r most w) := by
  have hbl := hr.lt
  obtain ⟨i1, i2, i3⟩ := r.int_lt most
  have iu := r.int_uses most
  obtain ⟨q, hq⟩ := nm (r.int most).1
  obtain ⟨n, hn⟩ := nm (r.int most).2
  obtain ⟨d, hd⟩ := nm (r.row most)
  have hd2 := hd.out
  unfold Rd.row at hd2
  rw [← hq.out, ← hn.out] at hd2
  rw [← hq.out] at i2 iu
  rw [← hn.out] at i1 i3
  have hn63 : n ≤ 9223372036854775807 := by omega
  have i4 : n ≠ 0 → q.torn = false := by
    intro h
    cases hqt : q.torn with
    | false => rfl
    | true =>
      exfalso; apply h
      rw [hn.out]
      exact r.int_torn0 most (by rw [← hq.out]; exact hqt)
  have HD := Lib.hid hd2
  have fin : ∀ (w' : World) (r' : Rd) (ao : Option Addr) (cap m : Nat), d.2.length = m → (SlP w' ao d.2 ∧ ∀ a, ao = some a → w.heap.size ≤ a.block) → IsRd w' b r' → r'.torn = d.1.torn → (d.1.torn = false → r' = d.1) → Kept b w w' → RowTells b r most w (.returned (.slice ao m cap)) w' := by
    intro w' r' ao cap m e1 hsl h1 h2 h3 h5
    refine ⟨ao, cap, by rw [← hd.out, e1], by rw [← hd.out]; exact hsl, ⟨r', h1, ?_, ?_⟩, h5⟩
    · rw [← hd.out]; exact h2
    · rw [← hd.out]; exact h3
  have FIN := Lib.hid fin
  have I4 := Lib.hid i4
  clear fin hd2 i4 i3
  go_enter Try.func35, Try.ntmps35
  go_wp2_with fail
  refine (rint_any b r most _ hr (by omega) hm).mono ?_; rintro e w1 ⟨rfl, h1, k1⟩
  rw [← hq.out] at h1
  rw [← hn.out]
  go_wp2_with fail
  go_loopw [5, 9] (fun v i wr => ∃ (k : Nat) (ri : Rd) (zs : List (Int × Int)), k ≤ n ∧ i = .int .i64 (k : Int) ∧ zs.length = k ∧ IsRd wr b ri ∧ OwnP wr w.heap.size 23 v zs ∧ Kept b w wr ∧ (k < n → ri.torn = false) ∧ ri.left.size + k ≤ 1000000 ∧
    Hid (Rd.dots n q = ((Rd.dots (n - k) ri).1, (Rd.dots (n - k) ri).2.map (zs ++ ·)))) (fun _ i _ => n - (intOf i).toNat)
  case atStart => exact ⟨0, q, [], by omega, rfl, rfl, h1, OwnP.nil _ _ _, k1, fun h => I4.out (by omega), by omega, Lib.hid (by simp)⟩
  case round =>
    clear h1 k1
    obtain ⟨k, ri, zs, hkn, rfl, hz, hrd, hown, hk, ht, hsz, hI⟩ := hrel
    by_cases hlt : k < n
    · have hst : Rd.dots (n - k) ri = if ri.dot.1.torn then (ri.dot.1, none) else ((Rd.dots (n - (k + 1)) ri.dot.1).1, (Rd.dots (n - (k + 1)) ri.dot.1).2.map (ri.dot.2 :: ·)) := by
        rw [show n - k = (n - (k + 1)) + 1 from by omega, Rd.dots]
      have hu := ri.dot_uses
      obtain ⟨T, hT⟩ := nm ri.dot.1.torn
      obtain ⟨⟨x, y⟩, hxy⟩ := nm ri.dot.2
      rw [← hT.out] at hst hu
      rw [← hxy.out] at hst
      have hbw : b < wr.heap.size := hrd.lt
      have HST := Lib.hid hst
      have HU := Lib.hid hu
      clear hst hu
      go_wp2_with fail
      refine (rdot_any b ri _ hrd (by omega)).mono ?_; rintro e w3 ⟨rfl, ⟨rj, h3, t3, e3, z3⟩, k3⟩
      rw [← hxy.out]
      rw [← hT.out] at t3 e3
      have E3 := Lib.hid e3
      have hown3 := k3.own hown hbl
      have k03 := hk.trans k3
      have s3 := k03.size
      clear hown hk hrd k3 e3
      go_wp2_with (at_builtin; refine app_pairs rfl _ _ rfl w.heap.size _ zs rfl (hown3.alloc _) (some ⟨w3.heap.size, 0, none⟩) 1 1 [(x, y)] rfl rfl (fun h => by cases h) (SlP.ofBlk (Blk.new w3 _ _)) (by omega) (Nat.le_trans s3 (by simp)) ?_)
      intro v' w4 hown4 hgrow
      have h4 : IsRd w4 b rj := Blk.grownP (Blk.alloc h3 _) (hown3.alloc _) hbl hgrow
      have k04 := (k03.alloc _).grownP (hown3.alloc _) (Nat.le_refl _) hgrow
      clear hown3 hgrow k03 h3
      go_wp2_with fail
      refine (fine_is' T b rj (by show _ = _; exact t3.symm) w4 h4).mono ?_; rintro e w5 ⟨rfl, rfl⟩
      cases T
      · obtain rfl := E3.out rfl
        have hu2 := (HU.out rfl).2
        have HI : Hid (Rd.dots n q = ((Rd.dots (n - (k + 1)) ri.dot.1).1, (Rd.dots (n - (k + 1)) ri.dot.1).2.map ((zs ++ [(x, y)]) ++ ·))) := by
          show _ = _
          rw [hI.out, HST.out]
          simp only [Bool.false_eq_true, if_false, Option.map_map]
          congr 2
          funext l
          simp
        have htt : ri.dot.1.torn = false := hT.out.symm
        go_wp2_with fail
        go_roundw
        case rel => exact ⟨k + 1, ri.dot.1, zs ++ [(x, y)], by omega, by go_num, by simp [hz], h4, hown4, k04, fun _ => htt, by omega, HI⟩
        case measure => simp [intOf]; omega
      · have e0 : d = (⟨ri.dot.1.left, true⟩, []) := by
          rw [HD.out, hI.out, HST.out]; rfl
        have E0 := Lib.hid e0
        clear e0
        go_wp2_with fail
        go_ret
        exact FIN.out _ rj none 0 0 (by rw [E0.out]; rfl) (by rw [E0.out]; exact ⟨SlP.nil _ _, fun a h => by cases h⟩) h4 (by rw [E0.out, t3]) (by rw [E0.out]; intro h; cases h) k04
    · obtain rfl : k = n := by omega
      have hdd : Rd.dots k q = (ri, some zs) := by
        rw [hI.out, Nat.sub_self]; simp [Rd.dots]
      obtain ⟨T, hT⟩ := nm ri.torn
      obtain ⟨A, hA⟩ := nm (decide (Asc zs))
      have hd3 : d = if T = true ∨ A = false then (⟨ri.left, true⟩, []) else (ri, zs) := by
        rw [HD.out, hdd]
        simp only
        rw [← hT.out]
        have : (¬ Asc zs) = (A = false) := by rw [hA.out]; simp
        simp only [this]
      obtain ⟨ao, cap, rfl, _, _, hsl, hab⟩ := hown.sl
      have HD3 := Lib.hid hd3
      have HSL := Lib.hid hsl
      have HZ := Lib.hid hz
      clear hd3 hdd hown hsl
      rw [hz]
      clear hz
      go_wp2_with fail
      refine (fine_is' T b ri hT _ hrd).mono ?_; rintro e w5 ⟨rfl, rfl⟩
      obtain ⟨t1, t2⟩ := ri.int_neg
      cases T
      · go_wp2_with fail
        refine (rises_is ao zs k cap HZ (by omega) A hA _ HSL.out).mono ?_; rintro e w6 ⟨rfl, hB6⟩
        have h6 : IsRd w6 b ri := Blk.below hrd hB6 hrd.lt
        have k06 := hk.trans (Kept.ofBelow hB6)
        have HSL6 := Lib.hid (HSL.out.below hB6)
        cases A
        · have e0 : d = (⟨ri.left, true⟩, []) := by rw [HD3.out]; simp
          have E0 := Lib.hid e0
          clear e0
          go_wp2_with fail
          refine (torn_any b ri _ h6 (by omega)).mono ?_; rintro e w7 ⟨rfl, h7, k7⟩
          go_wp2_with fail
          go_ret
          exact FIN.out _ _ none 0 0 (by rw [E0.out]; rfl) (by rw [E0.out]; exact ⟨SlP.nil _ _, fun a h => by cases h⟩) h7 (by rw [E0.out, t1]) (by rw [E0.out]; intro h; cases h) (k06.trans k7)
        · have e0 : d = (ri, zs) := by rw [HD3.out]; simp
          have E0 := Lib.hid e0
          clear e0
          go_wp2_with fail
          go_ret
          exact FIN.out _ ri ao cap k (by rw [E0.out]; exact HZ.out) (by rw [E0.out]; exact ⟨HSL6.out, hab⟩) h6 (by rw [E0.out]) (by rw [E0.out]; intro h; rfl) k06
      · have e0 : d = (⟨ri.left, true⟩, []) := by rw [HD3.out]; simp
        have E0 := Lib.hid e0
        clear e0
        go_wp2_with fail
        refine (torn_any b ri _ hrd (by omega)).mono ?_; rintro e w7 ⟨rfl, h7, k7⟩
        go_wp2_with fail
        go_ret
        exact FIN.out _ _ none 0 0 (by rw [E0.out]; rfl) (by rw [E0.out]; exact ⟨SlP.nil _ _, fun a h => by cases h⟩) h7 (by rw [E0.out, t1]) (by rw [E0.out]; intro h; cases h) (hk.trans k7)
end Go.Proofs.Ythhcooabfgegaaa
