/- Names are read: the program's reader. -/
import Derived.Test.YthhcooabfgegaaaDotWrite
import Derived.Test.YthhcooabfgegaaaReaderB
import Derived.Test.YthhcooabfgegaaaReaderRefB
import Derived.Outline
namespace Go.Proofs.Ythhcooabfgegaaa
open Go.RowKit Go.Shelf Go.Lib Go.Sort

/-- A name is read. -/
def Rd.dot (r : Rd) : Rd × (Int × Int) :=
  if ((r.int 1099511627776).1.int 1099511627776).1.torn = true ∨ okD (r.int 1099511627776).2 ((r.int 1099511627776).1.int 1099511627776).2 = false then (⟨((r.int 1099511627776).1.int 1099511627776).1.left, true⟩, (0, 0))
  else (((r.int 1099511627776).1.int 1099511627776).1, ((r.int 1099511627776).2, ((r.int 1099511627776).1.int 1099511627776).2))

set_option maxRecDepth 100000 in
set_option maxHeartbeats 400000 in
theorem torn_any (b : Nat) (r : Rd) (w : World) (hr : IsRd w b r) (hs : r.left.size ≤ 4611686018427387904) :
    Calls Try.prog 47 #[.pointer (some ⟨b, 0, none⟩)] w fun e w' => e = .returned (.tuple #[]) ∧ IsRd w' b (r.int (-1)).1 ∧ Kept b w w' := by
  go_enter Try.func47, Try.ntmps47
  go_wp2_with fail
  refine (rint_any b r (-1) _ hr hs (by decide)).mono ?_; rintro e w1 ⟨rfl, h1, h2⟩
  go_wp2_with fail
  go_end0
  exact ⟨rfl, h1, h2⟩
theorem Rd.int_neg (r : Rd) : (r.int (-1)).1.torn = true ∧ (r.int (-1)).1.left.size ≤ r.left.size := by
  unfold Rd.int
  rw [if_pos (.inl (by decide))]
  exact ⟨rfl, r.num_lt.2⟩

theorem fine_is' (T : Bool) (b : Nat) (r : Rd) (hT : Hid (T = r.torn)) (w : World) (hr : IsRd w b r) :
    Calls Try.prog 32 #[.pointer (some ⟨b, 0, none⟩)] w fun e w' => e = .returned (.bool (!T)) ∧ w = w' := by rw [hT.out]; exact fine_any b r w hr

/-- What dot.Read tells. -/
def DotTells (b : Nat) (r : Rd) (w : World) (e : Ending) (w' : World) : Prop :=
  e = .returned (.agg #[.int .i64 r.dot.2.1, .int .i64 r.dot.2.2]) ∧ (∃ r', IsRd w' b r' ∧ r'.torn = r.dot.1.torn ∧ (r.dot.1.torn = false → r' = r.dot.1) ∧ r'.left.size ≤ r.left.size) ∧ Kept b w w'

set_option maxRecDepth 100000 in
set_option maxHeartbeats 2000000 in
theorem rdot_any (b : Nat) (r : Rd) (w : World) (hr : IsRd w b r) (hs : r.left.size ≤ 1000000) :
    Calls Try.prog 30 #[.pointer (some ⟨b, 0, none⟩)] w (DotTells b r w) := by
  have hbl := hr.lt
  obtain ⟨i1, i2, i3⟩ := r.int_lt 1099511627776
  obtain ⟨j1, j2, j3⟩ := (r.int 1099511627776).1.int_lt 1099511627776
  obtain ⟨d, hd⟩ := nm r.dot
  have hd2 := hd.out
  unfold Rd.dot at hd2
  obtain ⟨q1, hq1⟩ := nm (r.int 1099511627776).1
  obtain ⟨n1, hn1⟩ := nm (r.int 1099511627776).2
  rw [← hq1.out] at hd2 i2 j1 j2 j3
  rw [← hn1.out] at hd2 i1 i3
  obtain ⟨q2, hq2⟩ := nm (q1.int 1099511627776).1
  obtain ⟨n2, hn2⟩ := nm (q1.int 1099511627776).2
  rw [← hq2.out] at hd2 j2
  rw [← hn2.out] at hd2 j1 j3
  have hD := Lib.hid hd2
  clear hd2
  have n1b : n1 ≤ 1099511627776 := by omega
  have n2b : n2 ≤ 1099511627776 := by omega
  obtain ⟨T, hT⟩ := nm q2.torn
  obtain ⟨C, hC⟩ := nm (okD (n1 : Int) (n2 : Int))
  have fin : ∀ (w' : World) (r' : Rd) (x y : Int), d.2 = (x, y) → IsRd w' b r' → r'.torn = d.1.torn → (d.1.torn = false → r' = d.1) → r'.left.size ≤ r.left.size → Kept b w w' → DotTells b r w (.returned (.agg #[.int .i64 x, .int .i64 y])) w' := by
    intro w' r' x y e1 h1 h2 h3 h4 h5
    refine ⟨by rw [← hd.out, e1], ⟨r', h1, ?_, ?_, h4⟩, h5⟩
    · rw [← hd.out]; exact h2
    · rw [← hd.out]; exact h3
  have FIN := Lib.hid fin
  clear fin i3 j3
  have bR0 : Blk (w.alloc (.cells #[.int .i64 0, .int .i64 0] 23)) w.heap.size #[.int .i64 0, .int .i64 0] 23 := Blk.new _ _ _
  have k0 : Kept b w (w.alloc (.cells #[.int .i64 0, .int .i64 0] 23)) := (Kept.refl b w).alloc _
  have h0 : IsRd (w.alloc (.cells #[.int .i64 0, .int .i64 0] 23)) b r := hr.alloc _
  have s0 : (w.alloc (.cells #[.int .i64 0, .int .i64 0] 23)).heap.size = w.heap.size + 1 := by simp
  obtain ⟨w0, hw0⟩ := nm (w.alloc (.cells #[.int .i64 0, .int .i64 0] 23))
  rw [← hw0.out] at bR0 k0 h0 s0
  obtain ⟨R, hR⟩ := nm w.heap.size
  rw [← hR.out] at bR0 s0 hbl
  go_enter Try.func30, Try.ntmps30
  go_wp2_with fail
  rw [← hR.out, ← hw0.out]
  refine (rint_any b r 1099511627776 _ h0 (by omega) (by decide)).mono ?_; rintro e w1 ⟨rfl, h1, k1⟩
  rw [← hq1.out] at h1
  rw [← hn1.out]
  have bR1 := k1.blk bR0 (by omega)
  have k01 := k0.trans k1
  have s1 := k1.size
  have bD1 : Blk (w1.alloc (.cells #[.int .i64 (n1 : Int), .int .i64 0] 23)) w1.heap.size #[.int .i64 (n1 : Int), .int .i64 0] 23 := Blk.new _ _ _
  have bR2 := bR1.alloc (.cells #[.int .i64 (n1 : Int), .int .i64 0] 23)
  have h1a : IsRd (w1.alloc (.cells #[.int .i64 (n1 : Int), .int .i64 0] 23)) b q1 := h1.alloc _
  have k02 := k01.alloc (.cells #[.int .i64 (n1 : Int), .int .i64 0] 23)
  clear bR0 k0 h0 k1 k01 bR1 h1
  go_wp2_with fail
  obtain ⟨D, hDn⟩ := nm w1.heap.size
  obtain ⟨w2, hw2⟩ := nm (w1.alloc (.cells #[.int .i64 (n1 : Int), .int .i64 0] 23))
  rw [← hw2.out] at bD1 bR2 h1a k02 ⊢
  rw [← hDn.out] at bD1 s1 ⊢
  refine (rint_any b q1 1099511627776 _ h1a (by omega) (by decide)).mono ?_; rintro e w3 ⟨rfl, h3, k3⟩
  rw [← hq2.out] at h3
  rw [← hn2.out]
  have bD3 := k3.blk bD1 (by omega)
  have bR3 := k3.blk bR2 (by omega)
  have k03 := k02.trans k3
  have cD : w3.cell? ⟨D, 1, none⟩ = some (.int .i64 0) := bD3.cell 1
  have fD : w3.frozen? ⟨D, 1, none⟩ = false := bD3.free 1
  have bD4 : Blk (w3.setCell ⟨D, 1, none⟩ (.int .i64 (n2 : Int))) D #[.int .i64 (n1 : Int), .int .i64 (n2 : Int)] 23 := bD3.set 1 _
  have bR4 : Blk (w3.setCell ⟨D, 1, none⟩ (.int .i64 (n2 : Int))) R #[.int .i64 0, .int .i64 0] 23 := bR3.setOther (by show R ≠ D; omega) _
  have h4 : IsRd (w3.setCell ⟨D, 1, none⟩ (.int .i64 (n2 : Int))) b q2 := Blk.setOther h3 (by show b ≠ D; omega) _
  have k04 : Kept b w (w3.setCell ⟨D, 1, none⟩ (.int .i64 (n2 : Int))) := k03.setNew (by show w.heap.size ≤ D; rw [← hR.out]; omega) _
  clear bD1 bR2 h1a k02 k3 bD3 bR3 k03 h3
  go_wp2_with fail
  clear cD fD
  obtain ⟨w4, hw4⟩ := nm (w3.setCell ⟨D, 1, none⟩ (.int .i64 (n2 : Int)))
  rw [← hw4.out] at bD4 bR4 h4 k04 ⊢
  refine (fine_is' T b q2 hT w4 h4).mono ?_; rintro e w5 ⟨rfl, rfl⟩
  have FR : Hid (∀ w' : World, Kept b w4 w' → Blk w' R #[.int .i64 0, .int .i64 0] 23) := fun w' h => h.blk bR4 (by omega)
  have hdb : D < w4.heap.size := bD4.lt
  have hrb : R < w4.heap.size := bR4.lt
  have hb4 : b < w4.heap.size := h4.lt
  cases T
  rotate_left
  · have e1 : d = (⟨q2.left, true⟩, (0, 0)) := by rw [hD.out, if_pos (.inl hT.out.symm)]
    have E1 := Lib.hid e1
    clear e1
    go_wp2_with fail
    refine (torn_any b q2 _ h4 (by omega)).mono ?_; rintro e w6 ⟨rfl, h6, k6⟩
    have bR6 := FR.out _ k6
    have c0 : w6.cell? ⟨R, 0, none⟩ = some (.int .i64 0) := bR6.cell 0
    have c1 : w6.cell? ⟨R, 1, none⟩ = some (.int .i64 0) := bR6.cell 1
    have f0 : w6.frozen? ⟨R, 0, none⟩ = false := bR6.free 0
    have f1 : w6.frozen? ⟨R, 1, none⟩ = false := bR6.free 1
    obtain ⟨t1, t2⟩ := q2.int_neg
    go_wp2_with fail
    refine bodyPost_ret (v := .agg #[.int .i64 0, .int .i64 0]) (by simp [results, Try.results30, go_sem, c0, c1]) rfl ?_
    refine FIN.out _ (q2.int (-1)).1 0 0 (by rw [E1.out]) (Blk.setOther (Blk.setOther h6 (by show b ≠ R; omega) _) (by show b ≠ R; omega) _) (by rw [E1.out, t1]) (by rw [E1.out]; intro h; cases h) (by omega) ?_
    exact ((k04.trans k6).setNew (by show w.heap.size ≤ R; rw [← hR.out]; omega) _).setNew (by show w.heap.size ≤ R; rw [← hR.out]; omega) _
  have g0 : w4.cell? ⟨D, 0, none⟩ = some (.int .i64 (n1 : Int)) := bD4.cell 0
  have g1 : w4.cell? ⟨D, 1, none⟩ = some (.int .i64 (n2 : Int)) := bD4.cell 1
  go_wp2_with fail
  refine (check_any (n1 : Int) (n2 : Int) C hC _).mono ?_; rintro e w5 ⟨rfl, hB5⟩
  clear g0 g1
  have h5 : IsRd w5 b q2 := Blk.below h4 hB5 hb4
  have bD5 := bD4.below hB5 hdb
  have bR5 := bR4.below hB5 hrb
  have k05 := k04.trans (Kept.ofBelow hB5)
  have c0 : w5.cell? ⟨R, 0, none⟩ = some (.int .i64 0) := bR5.cell 0
  have c1 : w5.cell? ⟨R, 1, none⟩ = some (.int .i64 0) := bR5.cell 1
  have f0 : w5.frozen? ⟨R, 0, none⟩ = false := bR5.free 0
  have f1 : w5.frozen? ⟨R, 1, none⟩ = false := bR5.free 1
  have g0 : w5.cell? ⟨D, 0, none⟩ = some (.int .i64 (n1 : Int)) := bD5.cell 0
  have g1 : w5.cell? ⟨D, 1, none⟩ = some (.int .i64 (n2 : Int)) := bD5.cell 1
  cases C
  · have e1 : d = (⟨q2.left, true⟩, (0, 0)) := by rw [hD.out, if_pos (.inr hC.out.symm)]
    have E1 := Lib.hid e1
    clear e1 c0 c1 f0 f1 g0 g1
    go_wp2_with fail
    refine (torn_any b q2 _ h5 (by omega)).mono ?_; rintro e w6 ⟨rfl, h6, k6⟩
    have bR6 := k6.blk bR5 (by omega)
    have c0 : w6.cell? ⟨R, 0, none⟩ = some (.int .i64 0) := bR6.cell 0
    have c1 : w6.cell? ⟨R, 1, none⟩ = some (.int .i64 0) := bR6.cell 1
    have f0 : w6.frozen? ⟨R, 0, none⟩ = false := bR6.free 0
    have f1 : w6.frozen? ⟨R, 1, none⟩ = false := bR6.free 1
    obtain ⟨t1, t2⟩ := q2.int_neg
    go_wp2_with fail
    refine bodyPost_ret (v := .agg #[.int .i64 0, .int .i64 0]) (by simp [results, Try.results30, go_sem, c0, c1]) rfl ?_
    refine FIN.out _ (q2.int (-1)).1 0 0 (by rw [E1.out]) (Blk.setOther (Blk.setOther h6 (by show b ≠ R; omega) _) (by show b ≠ R; omega) _) (by rw [E1.out, t1]) (by rw [E1.out]; intro h; cases h) (by omega) ?_
    exact ((k05.trans k6).setNew (by show w.heap.size ≤ R; rw [← hR.out]; omega) _).setNew (by show w.heap.size ≤ R; rw [← hR.out]; omega) _
  · have e1 : d = (q2, ((n1 : Int), (n2 : Int))) := by rw [hD.out, if_neg (by rw [← hT.out, ← hC.out]; simp)]
    have E1 := Lib.hid e1
    clear e1
    go_wp2_with fail
    refine bodyPost_ret (v := .agg #[.int .i64 (n1 : Int), .int .i64 (n2 : Int)]) (by simp [results, Try.results30, go_sem, c0, c1]) rfl ?_
    refine FIN.out _ q2 n1 n2 (by rw [E1.out]) (Blk.setOther (Blk.setOther h5 (by show b ≠ R; omega) _) (by show b ≠ R; omega) _) (by rw [E1.out]) (by rw [E1.out]; intro h; rfl) (by omega) ?_
    exact (k05.setNew (by show w.heap.size ≤ R; rw [← hR.out]; omega) _).setNew (by show w.heap.size ≤ R; rw [← hR.out]; omega) _
end Go.Proofs.Ythhcooabfgegaaa
