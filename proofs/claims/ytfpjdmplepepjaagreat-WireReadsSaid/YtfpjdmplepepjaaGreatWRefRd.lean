/- Names and rows of names are read: the document's. -/
import Derived.Test.YtfpjdmplepepjaaGreatWReaderRef
import Derived.Test.YtfpjdmplepepjaaGreatK6
namespace Go.Proofs.YtfpjdmplepepjaaGreat
open Go.RowKit Go.Sort

/-- What the document's Read tells. -/
def RefDotTells (b : Nat) (r : Rd) (w : World) (e : Ending) (w' : World) : Prop :=
  e = .returned (.agg #[.int .i64 r.dot.2.1, .int .i64 r.dot.2.2]) ∧ IsRr w' b r.dot.1 ∧ Kept b w w'

set_option maxRecDepth 100000 in
set_option maxHeartbeats 2000000 in
theorem refrdot_any (b : Nat) (r : Rd) (w : World) (hr : IsRr w b r) (hs : r.left.size ≤ 1000000) :
    Calls Tryz.prog 51 #[.pointer (some ⟨b, 0, none⟩)] w (RefDotTells b r w) := by
  have hbl := hr.lt
  obtain ⟨i1, i2, i3⟩ := r.int_lt 1099511627776
  obtain ⟨j1, j2, j3⟩ := (r.int 1099511627776).1.int_lt 1099511627776
  obtain ⟨d, hd⟩ := nm r.dot
  have hd2 := hd.out
  unfold Rd.dot at hd2
  obtain ⟨q1, hq1⟩ := nm (r.int 1099511627776).1
  obtain ⟨n1, hn1⟩ := nm (r.int 1099511627776).2
  rw [← hq1.out] at hd2 i2 j1 j2 j3
  rw [← hn1.out] at hd2 i1 i3
  obtain ⟨⟨L, T⟩, hq2⟩ := nm (q1.int 1099511627776).1
  obtain ⟨n2, hn2⟩ := nm (q1.int 1099511627776).2
  rw [← hq2.out] at hd2 j2
  rw [← hn2.out] at hd2 j1 j3
  have hD := Lib.hid hd2
  clear hd2
  have n1b : n1 ≤ 1099511627776 := by omega
  have n2b : n2 ≤ 1099511627776 := by omega
  obtain ⟨C, hC⟩ := nm (okD (n1 : Int) (n2 : Int))
  have fin : ∀ (w' : World) (x y : Int), d.2 = (x, y) → IsRr w' b d.1 → Kept b w w' → RefDotTells b r w (.returned (.agg #[.int .i64 x, .int .i64 y])) w' := by
    intro w' x y e1 h1 h5
    refine ⟨by rw [← hd.out, e1], by rw [← hd.out]; exact h1, h5⟩
  have FIN := Lib.hid fin
  clear fin i3 j3
  have bR0 : Blk (w.alloc (.cells #[.int .i64 0, .int .i64 0] 33)) w.heap.size #[.int .i64 0, .int .i64 0] 33 := Blk.new _ _ _
  have k0 : Kept b w (w.alloc (.cells #[.int .i64 0, .int .i64 0] 33)) := (Kept.refl b w).alloc _
  have h0 : IsRr (w.alloc (.cells #[.int .i64 0, .int .i64 0] 33)) b r := Blk.alloc hr _
  have s0 : (w.alloc (.cells #[.int .i64 0, .int .i64 0] 33)).heap.size = w.heap.size + 1 := by simp
  obtain ⟨w0, hw0⟩ := nm (w.alloc (.cells #[.int .i64 0, .int .i64 0] 33))
  rw [← hw0.out] at bR0 k0 h0 s0
  obtain ⟨R, hR⟩ := nm w.heap.size
  rw [← hR.out] at bR0 s0 hbl
  go_enter Tryz.func51, Tryz.ntmps51
  go_wp2_with fail
  rw [← hR.out, ← hw0.out]
  refine (refrint_any b r 1099511627776 _ h0 (by omega) (by decide)).mono ?_; rintro e w1 ⟨rfl, h1, k1⟩
  rw [← hq1.out] at h1
  rw [← hn1.out]
  have bR1 := k1.blk bR0 (by omega)
  have k01 := k0.trans k1
  have s1 := k1.size
  have bD1 : Blk (w1.alloc (.cells #[.int .i64 (n1 : Int), .int .i64 0] 33)) w1.heap.size #[.int .i64 (n1 : Int), .int .i64 0] 33 := Blk.new _ _ _
  have bR2 := bR1.alloc (.cells #[.int .i64 (n1 : Int), .int .i64 0] 33)
  have h1a : IsRr (w1.alloc (.cells #[.int .i64 (n1 : Int), .int .i64 0] 33)) b q1 := Blk.alloc h1 _
  have k02 := k01.alloc (.cells #[.int .i64 (n1 : Int), .int .i64 0] 33)
  clear bR0 k0 h0 k1 k01 bR1 h1
  go_wp2_with fail
  obtain ⟨D, hDn⟩ := nm w1.heap.size
  obtain ⟨w2, hw2⟩ := nm (w1.alloc (.cells #[.int .i64 (n1 : Int), .int .i64 0] 33))
  rw [← hw2.out] at bD1 bR2 h1a k02 ⊢
  rw [← hDn.out] at bD1 s1 ⊢
  refine (refrint_any b q1 1099511627776 _ h1a (by omega) (by decide)).mono ?_; rintro e w3 ⟨rfl, h3, k3⟩
  rw [← hq2.out] at h3
  rw [← hn2.out]
  have bD3 := k3.blk bD1 (by omega)
  have bR3 := k3.blk bR2 (by omega)
  have k03 := k02.trans k3
  have cD : w3.cell? ⟨D, 1, none⟩ = some (.int .i64 0) := bD3.cell 1
  have cD0 : w3.cell? ⟨D, 0, none⟩ = some (.int .i64 (n1 : Int)) := bD3.cell 0
  have fD : w3.frozen? ⟨D, 1, none⟩ = false := bD3.free 1
  have bD4 : Blk (w3.setCell ⟨D, 1, none⟩ (.int .i64 (n2 : Int))) D #[.int .i64 (n1 : Int), .int .i64 (n2 : Int)] 33 := bD3.set 1 _
  have bR4 : Blk (w3.setCell ⟨D, 1, none⟩ (.int .i64 (n2 : Int))) R #[.int .i64 0, .int .i64 0] 33 := bR3.setOther (by show R ≠ D; omega) _
  have h4 : IsRr (w3.setCell ⟨D, 1, none⟩ (.int .i64 (n2 : Int))) b ⟨L, T⟩ := Blk.setOther h3 (by show b ≠ D; omega) _
  have k04 : Kept b w (w3.setCell ⟨D, 1, none⟩ (.int .i64 (n2 : Int))) := k03.setNew (by show w.heap.size ≤ D; rw [← hR.out]; omega) _
  clear bD1 bR2 h1a k02 k3 bD3 bR3 k03 h3
  go_wp2_with fail
  clear cD fD cD0
  obtain ⟨w4, hw4⟩ := nm (w3.setCell ⟨D, 1, none⟩ (.int .i64 (n2 : Int)))
  rw [← hw4.out] at bD4 bR4 h4 k04 ⊢
  have hdb : D < w4.heap.size := bD4.lt
  have hrb : R < w4.heap.size := bR4.lt
  have hb4 : b < w4.heap.size := h4.lt
  refine (refcheck_any (n1 : Int) (n2 : Int) C hC _).mono ?_; rintro e w5 ⟨rfl, hB5⟩
  have h5 : IsRr w5 b ⟨L, T⟩ := Blk.below h4 hB5 hb4
  have bD5 := bD4.below hB5 hdb
  have bR5 := bR4.below hB5 hrb
  have k05 := k04.trans (Kept.ofBelow hB5)
  have c0 : w5.cell? ⟨R, 0, none⟩ = some (.int .i64 0) := bR5.cell 0
  have c1 : w5.cell? ⟨R, 1, none⟩ = some (.int .i64 0) := bR5.cell 1
  have f0 : w5.frozen? ⟨R, 0, none⟩ = false := bR5.free 0
  have f1 : w5.frozen? ⟨R, 1, none⟩ = false := bR5.free 1
  have g0 : w5.cell? ⟨D, 0, none⟩ = some (.int .i64 (n1 : Int)) := bD5.cell 0
  have g1 : w5.cell? ⟨D, 1, none⟩ = some (.int .i64 (n2 : Int)) := bD5.cell 1
  have t0 : w5.cell? ⟨b, 1, none⟩ = some (.bool T) := h5.cell 1
  have t1 : w5.frozen? ⟨b, 1, none⟩ = false := h5.free 1
  have hbR : b ≠ R := by omega
  have hwR : w.heap.size ≤ R := by rw [← hR.out]; exact Nat.le_refl _
  clear bD4 bR4 h4 k04 hB5 bD5
  by_cases hbad : T = true ∨ C = false
  · have e1 : d = (⟨L, true⟩, (0, 0)) := by rw [hD.out, ← hC.out, if_pos hbad]
    have E1 := Lib.hid e1
    clear e1
    have ends : RefDotTells b r w (.returned (.agg #[.int .i64 0, .int .i64 0])) (((w5.setCell ⟨b, 1, none⟩ (.bool true)).setCell ⟨R, 0, none⟩ (.int .i64 0)).setCell ⟨R, 1, none⟩ (.int .i64 0)) :=
      FIN.out _ 0 0 (by rw [E1.out]) (by rw [E1.out]; exact Blk.setOther (Blk.setOther (h5.setTorn true) hbR _) hbR _) (((k05.set _ _).setNew hwR _).setNew hwR _)
    have ENDS := Lib.hid ends
    clear ends
    cases C
    · go_wp2_with fail
      refine bodyPost_ret (v := .agg #[.int .i64 0, .int .i64 0]) (by simp [results, Tryz.results51, go_sem, c0, c1]) rfl ?_
      exact ENDS.out
    · obtain rfl : T = true := by simpa using hbad
      clear hbad
      go_wp2_with fail
      refine bodyPost_ret (v := .agg #[.int .i64 0, .int .i64 0]) (by simp [results, Tryz.results51, go_sem, c0, c1]) rfl ?_
      exact ENDS.out
  · obtain ⟨rfl, rfl⟩ : T = false ∧ C = true := by
      cases T <;> cases C <;> simp at hbad ⊢
    have e1 : d = (⟨L, false⟩, ((n1 : Int), (n2 : Int))) := by rw [hD.out, if_neg (by rw [← hC.out]; simp)]
    have E1 := Lib.hid e1
    clear e1 hbad
    go_wp2_with fail
    refine bodyPost_ret (v := .agg #[.int .i64 (n1 : Int), .int .i64 (n2 : Int)]) (by simp [results, Tryz.results51, go_sem, c0, c1]) rfl ?_
    refine FIN.out _ n1 n2 (by rw [E1.out]) (by rw [E1.out]; exact Blk.setOther (Blk.setOther h5 hbR _) hbR _) ?_
    exact (k05.setNew hwR _).setNew hwR _

theorem refrises_is (ao : Option Addr) (ps : List (Int × Int)) (n cap : Nat) (hn : Hid (ps.length = n)) (hm : n ≤ 1000000000) (r : Bool) (hr : Hid (r = decide (Asc ps))) (w : World) (hs : SlP w ao ps) :
    Calls Tryz.prog 98 #[.slice ao n cap] w fun e w' => e = .returned (.bool r) ∧ Below w.heap.size w w' := refrises_any ao ps n cap hn hm w hs r hr

theorem Rd.dot_le (r : Rd) : r.dot.1.left.size ≤ r.left.size := by
  have h1 := (r.int_lt 1099511627776).2.1
  have h2 := ((r.int 1099511627776).1.int_lt 1099511627776).2.1
  unfold Rd.dot
  split <;> (simp only; omega)

/-- What the document's ReadRow tells. -/
def RefRowTells (b : Nat) (r : Rd) (most : Int) (w : World) (e : Ending) (w' : World) : Prop :=
  ∃ ao cap, e = .returned (.slice ao (r.row most).2.length cap) ∧ (SlP w' ao (r.row most).2 ∧ ∀ a, ao = some a → w.heap.size ≤ a.block) ∧ (∃ r', IsRr w' b r' ∧ r'.torn = (r.row most).1.torn ∧ ((r.row most).1.torn = false → r' = (r.row most).1) ∧ r'.left.size ≤ 1000000) ∧ Kept b w w'

/-- What is told of so many names, if they are read one by one till one is none. -/
theorem Rd.dots_torn (n : Nat) (q : Rd) (h : q.torn = true) (hn : n ≠ 0) : (Rd.dots n q).2 = none ∧ (Rd.dots n q).1.torn = true := by
  cases n with
  | zero => exact absurd rfl hn
  | succ n =>
    have ht : q.dot.1.torn = true := by
      cases hq : q.dot.1.torn with
      | true => rfl
      | false => have := (q.dot_uses hq).1; rw [h] at this; cases this
    simp [Rd.dots, ht]

set_option maxRecDepth 100000 in
set_option maxHeartbeats 4000000 in
theorem refreadrow_any (b : Nat) (r : Rd) (most : Int) (w : World) (hr : IsRr w b r) (hs : r.left.size ≤ 1000000) (hm : most ≤ 9223372036854775807) :
    Calls Tryz.prog 79 #[.pointer (some ⟨b, 0, none⟩), .int .i64 most] w (RefRowTells b r most w) := by
  have hbl := hr.lt
  obtain ⟨i1, i2, i3⟩ := r.int_lt most
  have iu := r.int_uses most
  obtain ⟨q, hq⟩ := nm (r.int most).1
  obtain ⟨n, hn⟩ := nm (r.int most).2
  obtain ⟨d, hd⟩ := nm (r.row most)
  have hd2 := hd.out
  unfold Rd.row at hd2
  rw [← hq.out, ← hn.out] at hd2
  rw [← hq.out] at i2 iu
  rw [← hn.out] at i1 i3
  have hn63 : n ≤ 9223372036854775807 := by omega
  have i4 : n ≠ 0 → q.torn = false := by
    intro h
    cases hqt : q.torn with
    | false => rfl
    | true =>
      exfalso; apply h
      rw [hn.out]
      exact r.int_torn0 most (by rw [← hq.out]; exact hqt)
  have HD := Lib.hid hd2
  have fin : ∀ (w' : World) (r' : Rd) (ao : Option Addr) (cap m : Nat), d.2.length = m → (SlP w' ao d.2 ∧ ∀ a, ao = some a → w.heap.size ≤ a.block) → IsRr w' b r' → r'.torn = d.1.torn → (d.1.torn = false → r' = d.1) → Kept b w w' → r'.left.size ≤ 1000000 → RefRowTells b r most w (.returned (.slice ao m cap)) w' := by
    intro w' r' ao cap m e1 hsl h1 h2 h3 h5 h6
    refine ⟨ao, cap, by rw [← hd.out, e1], by rw [← hd.out]; exact hsl, ⟨r', h1, ?_, ?_, h6⟩, h5⟩
    · rw [← hd.out]; exact h2
    · rw [← hd.out]; exact h3
  have FIN := Lib.hid fin
  have I4 := Lib.hid i4
  clear fin hd2 i4 i3
  go_enter Tryz.func79, Tryz.ntmps79
  go_wp2_with fail
  refine (refrint_any b r most _ hr (by omega) hm).mono ?_; rintro e w1 ⟨rfl, h1, k1⟩
  rw [← hq.out] at h1
  rw [← hn.out]
  go_wp2_with fail
  go_loopw [6, 7] (fun v i wr => ∃ (k : Nat) (ri : Rd) (zs : List (Int × Int)), k ≤ n ∧ i = .int .i64 (k : Int) ∧ zs.length = k ∧ IsRr wr b ri ∧ OwnP wr w.heap.size 33 v zs ∧ Kept b w wr ∧ (ri.left.size ≤ 1000000 ∧ ri.left.size + k ≤ 1000001) ∧ (ri.torn = false → ri.left.size + k ≤ 1000000) ∧
    Hid (ri.torn = true → d.1.torn = true ∧ d.2 = []) ∧ Hid (ri.torn = false → Rd.dots n q = ((Rd.dots (n - k) ri).1, (Rd.dots (n - k) ri).2.map (zs ++ ·)))) (fun _ i _ => n - (intOf i).toNat)
  case atStart =>
    refine ⟨0, q, [], by omega, rfl, rfl, h1, OwnP.nil _ _ _, k1, by omega, fun _ => by omega, ?_, Lib.hid (fun _ => by simp)⟩
    intro ht
    have h0 : n = 0 := by
      rcases Nat.eq_zero_or_pos n with h | h
      · exact h
      · have := I4.out (by omega); rw [ht] at this; cases this
    rw [HD.out, h0]
    simp [Rd.dots, ht]
  case round =>
    clear h1 k1
    obtain ⟨k, ⟨L, T⟩, zs, hkn, rfl, hz, hrd, hown, hk, hsz, hsz2, hIt, hI⟩ := hrel
    simp only at hsz hsz2 hIt hI
    by_cases hlt : k < n
    · cases T
      rotate_left
      · clear hsz2 hI
        obtain ⟨ao, cap, rfl, _, _, hsl, _⟩ := hown.sl
        have HSL := Lib.hid hsl
        have HZ := Lib.hid hz
        rw [hz]
        obtain ⟨e01, e02⟩ := hIt.out rfl
        have E01 := Lib.hid e01
        have E02 := Lib.hid e02
        obtain ⟨A, hA⟩ := nm (decide (Asc zs))
        have t0 : wr.cell? ⟨b, 1, none⟩ = some (.bool true) := hrd.cell 1
        clear hown hsl hz e01 e02
        go_wp2_with fail
        refine (refrises_is ao zs k cap HZ (by omega) A hA _ HSL.out).mono ?_; rintro e w6 ⟨rfl, hB6⟩
        have h6 : IsRr w6 b ⟨L, true⟩ := Blk.below hrd hB6 hrd.lt
        have k06 := hk.trans (Kept.ofBelow hB6)
        clear t0
        have t0 : w6.cell? ⟨b, 1, none⟩ = some (.bool true) := h6.cell 1
        have t1 : w6.frozen? ⟨b, 1, none⟩ = false := h6.free 1
        cases A
        · go_wp2_with fail
          go_ret
          exact FIN.out _ ⟨L, true⟩ none 0 0 (by rw [E02.out]; rfl) (by rw [E02.out]; exact ⟨SlP.nil _ _, fun a h => (by cases h)⟩) (h6.setTorn true) (by rw [E01.out]) (by rw [E01.out]; intro h; cases h) (k06.set _ _) (by first | omega | (simp only at *; omega))
        · go_wp2_with fail
          go_ret
          exact FIN.out _ ⟨L, true⟩ none 0 0 (by rw [E02.out]; rfl) (by rw [E02.out]; exact ⟨SlP.nil _ _, fun a h => (by cases h)⟩) h6 (by rw [E01.out]) (by rw [E01.out]; intro h; cases h) k06 (by first | omega | (simp only at *; omega))
      · have hst : Rd.dots (n - k) ⟨L, false⟩ = if (Rd.mk L false).dot.1.torn then ((Rd.mk L false).dot.1, none) else ((Rd.dots (n - (k + 1)) (Rd.mk L false).dot.1).1, (Rd.dots (n - (k + 1)) (Rd.mk L false).dot.1).2.map ((Rd.mk L false).dot.2 :: ·)) := by
          rw [show n - k = (n - (k + 1)) + 1 from by omega, Rd.dots]
        have hu := (Rd.mk L false).dot_uses
        have hle := (Rd.mk L false).dot_le
        have hsz3 := hsz2 rfl
        obtain ⟨rj, hj⟩ := nm (Rd.mk L false).dot.1
        obtain ⟨⟨x, y⟩, hxy⟩ := nm (Rd.mk L false).dot.2
        rw [← hj.out] at hst hu hle
        rw [← hxy.out] at hst
        simp only at hu hle
        have HST := Lib.hid hst
        have HU := Lib.hid hu
        have t0 : wr.cell? ⟨b, 1, none⟩ = some (.bool false) := hrd.cell 1
        clear hst hu hsz2
        go_wp2_with fail
        refine (refrdot_any b ⟨L, false⟩ _ hrd (by simp only; omega)).mono ?_; rintro e w3 ⟨rfl, h3, k3⟩
        rw [← hxy.out]
        rw [← hj.out] at h3
        have hown3 := k3.own hown hbl
        have k03 := hk.trans k3
        have s3 := k03.size
        clear hown hk hrd k3 t0
        go_wp2_with (at_builtin; refine app_pairs rfl _ _ rfl w.heap.size _ zs rfl (hown3.alloc _) (some ⟨w3.heap.size, 0, none⟩) 1 1 [(x, y)] rfl rfl (fun h => by cases h) (SlP.ofBlk (Blk.new w3 _ _)) (by omega) (Nat.le_trans s3 (by simp)) ?_)
        intro v' w4 hown4 hgrow
        have h4 : IsRr w4 b rj := Blk.grownP (Blk.alloc h3 _) (hown3.alloc _) hbl hgrow
        have k04 := (k03.alloc _).grownP (hown3.alloc _) (Nat.le_refl _) hgrow
        clear hown3 hgrow k03 h3
        have HIt : Hid (rj.torn = true → d.1.torn = true ∧ d.2 = []) := by
          intro h
          rw [HD.out, hI.out (by first | exact rfl | exact trivial), HST.out, h]
          exact ⟨rfl, rfl⟩
        have HI : Hid (rj.torn = false → Rd.dots n q = ((Rd.dots (n - (k + 1)) rj).1, (Rd.dots (n - (k + 1)) rj).2.map ((zs ++ [(x, y)]) ++ ·))) := by
          intro h
          rw [hI.out (by first | exact rfl | exact trivial), HST.out, h]
          simp only [Bool.false_eq_true, if_false, Option.map_map]
          congr 2
          funext l
          simp
        have hsz4 : rj.torn = false → rj.left.size + (k + 1) ≤ 1000000 := fun h => by have := (HU.out h).2; omega
        have HSZ4 := Lib.hid hsz4
        have hsz5 : rj.left.size ≤ 1000000 ∧ rj.left.size + (k + 1) ≤ 1000001 := by omega
        clear hsz4
        go_wp2_with fail
        go_roundw
        case rel => exact ⟨k + 1, rj, zs ++ [(x, y)], by omega, by go_num, by simp [hz], h4, hown4, k04, hsz5, HSZ4.out, HIt, HI⟩
        case measure => simp [intOf]; omega
    · obtain rfl : k = n := by omega
      cases T
      rotate_left
      · clear hsz2 hI
        obtain ⟨ao, cap, rfl, _, _, hsl, _⟩ := hown.sl
        have HSL := Lib.hid hsl
        have HZ := Lib.hid hz
        rw [hz]
        obtain ⟨e01, e02⟩ := hIt.out rfl
        have E01 := Lib.hid e01
        have E02 := Lib.hid e02
        obtain ⟨A, hA⟩ := nm (decide (Asc zs))
        have t0 : wr.cell? ⟨b, 1, none⟩ = some (.bool true) := hrd.cell 1
        clear hown hsl hz e01 e02
        go_wp2_with fail
        refine (refrises_is ao zs k cap HZ (by omega) A hA _ HSL.out).mono ?_; rintro e w6 ⟨rfl, hB6⟩
        have h6 : IsRr w6 b ⟨L, true⟩ := Blk.below hrd hB6 hrd.lt
        have k06 := hk.trans (Kept.ofBelow hB6)
        clear t0
        have t0 : w6.cell? ⟨b, 1, none⟩ = some (.bool true) := h6.cell 1
        have t1 : w6.frozen? ⟨b, 1, none⟩ = false := h6.free 1
        cases A
        · go_wp2_with fail
          go_ret
          exact FIN.out _ ⟨L, true⟩ none 0 0 (by rw [E02.out]; rfl) (by rw [E02.out]; exact ⟨SlP.nil _ _, fun a h => (by cases h)⟩) (h6.setTorn true) (by rw [E01.out]) (by rw [E01.out]; intro h; cases h) (k06.set _ _) (by first | omega | (simp only at *; omega))
        · go_wp2_with fail
          go_ret
          exact FIN.out _ ⟨L, true⟩ none 0 0 (by rw [E02.out]; rfl) (by rw [E02.out]; exact ⟨SlP.nil _ _, fun a h => (by cases h)⟩) h6 (by rw [E01.out]) (by rw [E01.out]; intro h; cases h) k06 (by first | omega | (simp only at *; omega))
      · clear hIt
        obtain ⟨ao, cap, rfl, _, _, hsl, hab⟩ := hown.sl
        have HSL := Lib.hid hsl
        have HZ := Lib.hid hz
        rw [hz]
        obtain ⟨A, hA⟩ := nm (decide (Asc zs))
        have hd3 : d = if A = false then (⟨L, true⟩, []) else (⟨L, false⟩, zs) := by
          rw [HD.out, hI.out rfl, Nat.sub_self]
          simp only [Rd.dots, Option.map_some, List.append_nil, Bool.false_eq_true, false_or]
          have : (¬ Asc zs) = (A = false) := by rw [hA.out]; simp
          simp only [this]
        have HD3 := Lib.hid hd3
        have t0 : wr.cell? ⟨b, 1, none⟩ = some (.bool false) := hrd.cell 1
        clear hown hsl hz hd3
        go_wp2_with fail
        refine (refrises_is ao zs k cap HZ (by omega) A hA _ HSL.out).mono ?_; rintro e w6 ⟨rfl, hB6⟩
        have h6 : IsRr w6 b ⟨L, false⟩ := Blk.below hrd hB6 hrd.lt
        have HSL6 := Lib.hid (HSL.out.below hB6)
        have k06 := hk.trans (Kept.ofBelow hB6)
        clear t0
        have t0 : w6.cell? ⟨b, 1, none⟩ = some (.bool false) := h6.cell 1
        have t1 : w6.frozen? ⟨b, 1, none⟩ = false := h6.free 1
        cases A
        · have e0 : d = (⟨L, true⟩, []) := by rw [HD3.out]; simp
          have E0 := Lib.hid e0
          clear e0
          go_wp2_with fail
          go_ret
          exact FIN.out _ ⟨L, true⟩ none 0 0 (by rw [E0.out]; rfl) (by rw [E0.out]; exact ⟨SlP.nil _ _, fun a h => (by cases h)⟩) (h6.setTorn true) (by rw [E0.out]) (by rw [E0.out]; intro h; cases h) (k06.set _ _) (by first | omega | (simp only at *; omega))
        · have e0 : d = (⟨L, false⟩, zs) := by rw [HD3.out]; simp
          have E0 := Lib.hid e0
          clear e0
          go_wp2_with fail
          go_ret
          exact FIN.out _ ⟨L, false⟩ ao cap k (by rw [E0.out]; exact HZ.out) (by rw [E0.out]; exact ⟨HSL6.out, hab⟩) h6 (by rw [E0.out]) (by rw [E0.out]; intro h; rfl) k06 (by first | omega | (simp only at *; omega))

theorem refrdot_red (b : Nat) (r : Rd) (w : World) (hr : IsRr w b r) (hs : r.left.size ≤ 1000000) :
    Calls Tryz.prog 51 #[.pointer (some ⟨b, 0, none⟩)] w fun e w' => ∃ (p q : Int) (r' : Rd), e = .returned (.agg #[.int .i64 p, .int .i64 q]) ∧ IsRr w' b r' ∧ Red dotP dotL r r' (p, q) ∧ r'.left.size ≤ 1000000 ∧ Kept b w w' := by
  refine (refrdot_any b r w hr hs).mono ?_
  rintro e w' ⟨rfl, h1, h5⟩
  exact ⟨_, _, _, rfl, h1, r.dot_red, Nat.le_trans r.dot_le hs, h5⟩
theorem refreadrow_red (b : Nat) (r : Rd) (most : Int) (w : World) (hr : IsRr w b r) (hs : r.left.size ≤ 1000000) (hm : most ≤ 1000000) :
    Calls Tryz.prog 79 #[.pointer (some ⟨b, 0, none⟩), .int .i64 most] w fun e w' => ∃ ao n cap xs r', e = .returned (.slice ao n cap) ∧ xs.length = n ∧ SlP w' ao xs ∧ (∀ a, ao = some a → w.heap.size ≤ a.block) ∧ IsRr w' b r' ∧ Red (RowP most) (rowL dotL) r r' xs ∧ r'.left.size ≤ 1000000 ∧ Kept b w w' := by
  refine (refreadrow_any b r most w hr hs (by omega)).mono ?_
  rintro e w' ⟨ao, cap, rfl, ⟨h0, h0'⟩, ⟨r', h1, h2, h3, h4⟩, h5⟩
  refine ⟨ao, _, cap, _, r', rfl, rfl, h0, h0', h1, ?_, h4, h5⟩
  have h := r.row_red most hm
  cases ht : (r.row most).1.torn with
  | true => exact h.any ht (h2.trans ht)
  | false => rw [h3 ht]; exact h
end Go.Proofs.YtfpjdmplepepjaaGreat
