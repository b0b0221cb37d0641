/- Names and rows as bytes. -/
import Derived.Test.YthhcooabfgegaaaDotMore
import Derived.Test.YthhcooabfgegaaaInt
import Derived.Test.YthhcooabfgegaaaBytes
import Derived.Deep.RegionHeld3
namespace Go.Proofs.Ythhcooabfgegaaa
open Go.RowKit Go.Shelf Go.Lib Go.Sort

def bytesD (p : Int × Int) : List UInt8 := Pl.num p.1.toNat ++ Pl.num p.2.toNat
def namesD (ps : List (Int × Int)) : List UInt8 := ps.flatMap bytesD
def rowD (ps : List (Int × Int)) : List UInt8 := Pl.num ps.length ++ namesD ps
/-- Numbers as the program has them. -/
def InD (p : Int × Int) : Prop := p.1 ≤ 9223372036854775807 ∧ p.2 ≤ 9223372036854775807
theorem bytesD_le (p : Int × Int) (h : InD p) : (bytesD p).length ≤ 20 := by
  have h1 := Pl.num_length_le p.1.toNat (by have := h.1; omega)
  have h2 := Pl.num_length_le p.2.toNat (by have := h.2; omega)
  simp only [bytesD, List.length_append]; omega
theorem namesD_le : ∀ (ps : List (Int × Int)), (∀ p ∈ ps, InD p) → (namesD ps).length ≤ 20 * ps.length
  | [], _ => by simp [namesD]
  | p :: ps, h => by
    have h1 := namesD_le ps fun q hq => h q (by simp [hq])
    have h2 := bytesD_le p (h p (by simp))
    have e : namesD (p :: ps) = bytesD p ++ namesD ps := rfl
    rw [e, List.length_append, List.length_cons]; omega
theorem namesD_snoc (ps : List (Int × Int)) (p : Int × Int) : namesD (ps ++ [p]) = namesD ps ++ bytesD p := by simp [namesD]

theorem int_is (n : Int) (s : ByteArray) (hs : Hid (s = ofL (Pl.num n.toNat))) (w : World) (hn : n ≤ 9223372036854775807) :
    Calls Try.prog 44 #[.int .i64 n] w fun e w' => e = .returned (.string s) ∧ Below w.heap.size w w' := by rw [hs.out]; exact mint_int n w hn
theorem refint_is (n : Int) (s : ByteArray) (hs : Hid (s = ofL (Pl.num n.toNat))) (w : World) (hn : n ≤ 9223372036854775807) :
    Calls Try.prog 45 #[.int .i64 n] w fun e w' => e = .returned (.string s) ∧ Below w.heap.size w w' := by rw [hs.out]; exact ref_int n w hn

set_option maxRecDepth 100000 in
set_option maxHeartbeats 1000000 in
theorem bytes_any (x y : Int) (w : World) (hx : x ≤ 9223372036854775807) (hy : y ≤ 9223372036854775807) (s : ByteArray) (hs : Hid (s = ofL (bytesD (x, y)))) :
    Calls Try.prog 25 #[.agg #[.int .i64 x, .int .i64 y]] w fun e w' => e = .returned (.string s) ∧ Below w.heap.size w w' := by
  obtain ⟨s1, h1⟩ := nm (ofL (Pl.num x.toNat))
  obtain ⟨s2, h2⟩ := nm (ofL (Pl.num y.toNat))
  have hsum : Hid (s1 ++ s2 = s) := by show _ = _; rw [hs.out, h1.out, h2.out, ofL_append]; rfl
  have l1 : s1.size ≤ 10 := by rw [h1.out, ofL_size]; exact Pl.num_length_le _ (by omega)
  have l2 : s2.size ≤ 10 := by rw [h2.out, ofL_size]; exact Pl.num_length_le _ (by omega)
  have hb0 : Blk (w.alloc (.cells #[.int .i64 x, .int .i64 y] 23)) w.heap.size #[.int .i64 x, .int .i64 y] 23 := Blk.new _ _ _
  obtain ⟨w1, hw1⟩ := nm (w.alloc (.cells #[.int .i64 x, .int .i64 y] 23))
  rw [← hw1.out] at hb0
  have l3 : s1.size + s2.size ≤ 9223372036854775807 := by omega
  have hadd := fun w : World => run_string_add_sum (P := Try.prog) w s1 s2 l3
  have hB0 : Below w.heap.size w w1 := by rw [hw1.out]; exact bOld _
  obtain ⟨p, hp⟩ := nm w.heap.size
  rw [← hp.out] at hb0
  have HF : Hid (∀ w' : World, Below w1.heap.size w1 w' → w'.cell? ⟨p, 0, none⟩ = some (.int .i64 x) ∧ w'.cell? ⟨p, 1, none⟩ = some (.int .i64 y)) := by
    intro w' h; exact ⟨(hb0.below h hb0.lt).cell 0, (hb0.below h hb0.lt).cell 1⟩
  have HB0 := Lib.hid hB0
  clear hB0 hb0
  obtain ⟨g1, g2⟩ := HF.out w1 (Below.refl _ _)
  have hBc : Below w1.heap.size w1 w1.drew := below_drewN (Below.refl _ _) 1
  go_enter Try.func25, Try.ntmps25
  go_wp2_with fail
  rw [← hp.out, ← hw1.out]
  go_region_held3 (fun w' => w'.cell? ⟨p, 0, none⟩ = some (.int .i64 x) ∧ w'.cell? ⟨p, 1, none⟩ = some (.int .i64 y)) (first | assumption | go_keep)
    (first
      | (go_at_call 44; (with_reducible refine (int_is x s1 h1 _ hx).mono ?_); rintro e w2 ⟨rfl, hB2⟩; have hBd := bNext hBc hB2; have g3 := HF.out _ hBd)
      | (go_at_call 44; (with_reducible refine (int_is y s2 h2 _ hy).mono ?_); rintro e w3 ⟨rfl, hB3⟩; have hBe := bNext hBd hB3; have g4 := HF.out _ hBe))
  go_wp2_with fail
  go_ret
  exact ⟨congrArg (fun t => Ending.returned (Value.string t)) hsum.out, bNext HB0.out hBe⟩

set_option maxRecDepth 100000 in
set_option maxHeartbeats 1000000 in
theorem refbytes_any (x y : Int) (w : World) (hx : x ≤ 9223372036854775807) (hy : y ≤ 9223372036854775807) (s : ByteArray) (hs : Hid (s = ofL (bytesD (x, y)))) :
    Calls Try.prog 26 #[.agg #[.int .i64 x, .int .i64 y]] w fun e w' => e = .returned (.string s) ∧ Below w.heap.size w w' := by
  obtain ⟨s1, h1⟩ := nm (ofL (Pl.num x.toNat))
  obtain ⟨s2, h2⟩ := nm (ofL (Pl.num y.toNat))
  have hsum : Hid (s1 ++ s2 = s) := by show _ = _; rw [hs.out, h1.out, h2.out, ofL_append]; rfl
  have l1 : s1.size ≤ 10 := by rw [h1.out, ofL_size]; exact Pl.num_length_le _ (by omega)
  have l2 : s2.size ≤ 10 := by rw [h2.out, ofL_size]; exact Pl.num_length_le _ (by omega)
  have hb0 : Blk (w.alloc (.cells #[.int .i64 x, .int .i64 y] 23)) w.heap.size #[.int .i64 x, .int .i64 y] 23 := Blk.new _ _ _
  obtain ⟨w1, hw1⟩ := nm (w.alloc (.cells #[.int .i64 x, .int .i64 y] 23))
  rw [← hw1.out] at hb0
  have l3 : s1.size + s2.size ≤ 9223372036854775807 := by omega
  have hadd := fun w : World => run_string_add_sum (P := Try.prog) w s1 s2 l3
  have hB0 : Below w.heap.size w w1 := by rw [hw1.out]; exact bOld _
  obtain ⟨p, hp⟩ := nm w.heap.size
  rw [← hp.out] at hb0
  have HF : Hid (∀ w' : World, Below w1.heap.size w1 w' → w'.cell? ⟨p, 0, none⟩ = some (.int .i64 x) ∧ w'.cell? ⟨p, 1, none⟩ = some (.int .i64 y)) := by
    intro w' h; exact ⟨(hb0.below h hb0.lt).cell 0, (hb0.below h hb0.lt).cell 1⟩
  have HB0 := Lib.hid hB0
  clear hB0 hb0
  obtain ⟨g1, g2⟩ := HF.out w1 (Below.refl _ _)
  have hBc : Below w1.heap.size w1 w1.drew := below_drewN (Below.refl _ _) 1
  go_enter Try.func26, Try.ntmps26
  go_wp2_with fail
  rw [← hp.out, ← hw1.out]
  go_region_held3 (fun w' => w'.cell? ⟨p, 0, none⟩ = some (.int .i64 x) ∧ w'.cell? ⟨p, 1, none⟩ = some (.int .i64 y)) (first | assumption | go_keep)
    (first
      | (go_at_call 45; (with_reducible refine (refint_is x s1 h1 _ hx).mono ?_); rintro e w2 ⟨rfl, hB2⟩; have hBd := bNext hBc hB2; have g3 := HF.out _ hBd)
      | (go_at_call 45; (with_reducible refine (refint_is y s2 h2 _ hy).mono ?_); rintro e w3 ⟨rfl, hB3⟩; have hBe := bNext hBd hB3; have g4 := HF.out _ hBe))
  go_wp2_with fail
  go_ret
  exact ⟨congrArg (fun t => Ending.returned (Value.string t)) hsum.out, bNext HB0.out hBe⟩

set_option maxRecDepth 100000 in
set_option maxHeartbeats 1000000 in
theorem row_any (ao : Option Addr) (ps : List (Int × Int)) (n cap : Nat) (hn : Hid (ps.length = n)) (hm : n ≤ 1000000) (hin : Hid (∀ p ∈ ps, InD p)) (w : World) (hs : SlP w ao ps) (s : ByteArray) (hss : Hid (s = ofL (rowD ps))) :
    Calls Try.prog 27 #[.slice ao n cap] w fun e w' => e = .returned (.string s) ∧ Below w.heap.size w w' := by
  have HS := Lib.hid hs
  clear hs
  obtain ⟨s0, h0⟩ := nm (ofL (Pl.num n))
  have l0 : s0.size ≤ 10 := by rw [h0.out, ofL_size]; exact Pl.num_length_le _ (by omega)
  go_enter Try.func27, Try.ntmps27
  go_wp2_with fail
  refine (int_is (n : Int) s0 h0 _ (by omega)).mono ?_; rintro e w1 ⟨rfl, hB1⟩
  go_wp2_with fail
  go_loopw [3, 11] (fun v i wr => ∃ (k : Nat) (t : ByteArray), k ≤ n ∧ i = .int .i64 (k : Int) ∧ v = .string t ∧ t.size ≤ 10 + 20 * k ∧ Below w.heap.size w wr ∧ Hid (t = s0 ++ ofL (namesD (ps.take k)))) (fun _ i _ => n - (intOf i).toNat)
  case atStart => exact ⟨0, s0, by omega, rfl, rfl, by omega, hB1, by show _ = _; rw [List.take_zero]; exact (append_nil s0).symm⟩
  case round =>
    obtain ⟨k, t, hk, rfl, rfl, ht, hB, hT⟩ := hrel
    by_cases hlt : k < n
    · obtain ⟨b, off, u, v, rfl, hbl, c0, c1, hpk⟩ := HS.out.get k (by rw [hn.out]; exact hlt)
      have d0 : wr.cell? ⟨b, off + k * 2, none⟩ = some (.int .i64 u) := (hB.cell (p := ⟨b, off + k * 2, none⟩) hbl).trans c0
      have d1 : wr.cell? ⟨b, off + k * 2 + 1, none⟩ = some (.int .i64 v) := (hB.cell (p := ⟨b, off + k * 2 + 1, none⟩) hbl).trans c1
      obtain ⟨q1, q2⟩ := hin.out _ (List.mem_of_getElem? hpk.out)
      simp only at q1 q2
      obtain ⟨s2, h2⟩ := nm (ofL (bytesD (u, v)))
      have l2 : s2.size ≤ 20 := by rw [h2.out, ofL_size]; exact bytesD_le _ ⟨q1, q2⟩
      have HT : Hid (t ++ s2 = s0 ++ ofL (namesD (ps.take (k + 1)))) := by
        show _ = _
        rw [hT.out, h2.out, take_snocP hpk.out, namesD_snoc, ← ofL_append, app_assoc]
      have hts : (t ++ s2).size ≤ 10 + 20 * (k + 1) := by rw [app_size]; omega
      clear c0 c1 hT
      go_wp2_with fail
      refine (bytes_any u v _ q1 q2 s2 h2).mono ?_; rintro e w3 ⟨rfl, hB3⟩
      clear d0 d1
      go_wp2_with fail
      go_roundw
      case rel => exact ⟨k + 1, t ++ s2, by omega, by go_num, rfl, hts, bNext (bNew hB _) hB3, HT⟩
      case measure => simp [intOf]; omega
    · obtain rfl : k = n := by omega
      have HE : Hid (t = s) := by
        show _ = _
        rw [hT.out, hss.out, h0.out, List.take_of_length_le (by rw [hn.out]; exact Nat.le_refl _), ofL_append, rowD, hn.out]
      go_wp2_with fail
      go_ret
      rw [HE.out]
      exact ⟨rfl, hB⟩

set_option maxRecDepth 100000 in
set_option maxHeartbeats 1000000 in
theorem refrow_any (ao : Option Addr) (ps : List (Int × Int)) (n cap : Nat) (hn : Hid (ps.length = n)) (hm : n ≤ 1000000) (hin : Hid (∀ p ∈ ps, InD p)) (w : World) (hs : SlP w ao ps) (s : ByteArray) (hss : Hid (s = ofL (rowD ps))) :
    Calls Try.prog 28 #[.slice ao n cap] w fun e w' => e = .returned (.string s) ∧ Below w.heap.size w w' := by
  have HS := Lib.hid hs
  clear hs
  obtain ⟨s0, h0⟩ := nm (ofL (Pl.num n))
  have l0 : s0.size ≤ 10 := by rw [h0.out, ofL_size]; exact Pl.num_length_le _ (by omega)
  go_enter Try.func28, Try.ntmps28
  go_wp2_with fail
  refine (refint_is (n : Int) s0 h0 _ (by omega)).mono ?_; rintro e w1 ⟨rfl, hB1⟩
  go_wp2_with fail
  go_loopw [3, 4] (fun v i wr => ∃ (k : Nat) (t : ByteArray), k ≤ n ∧ i = .int .i64 (k : Int) ∧ v = .string t ∧ t.size ≤ 10 + 20 * k ∧ Below w.heap.size w wr ∧ Hid (t = s0 ++ ofL (namesD (ps.take k)))) (fun _ i _ => n - (intOf i).toNat)
  case atStart => exact ⟨0, s0, by omega, rfl, rfl, by omega, hB1, by show _ = _; rw [List.take_zero]; exact (append_nil s0).symm⟩
  case round =>
    obtain ⟨k, t, hk, rfl, rfl, ht, hB, hT⟩ := hrel
    by_cases hlt : k < n
    · obtain ⟨b, off, u, v, rfl, hbl, c0, c1, hpk⟩ := HS.out.get k (by rw [hn.out]; exact hlt)
      have d0 : wr.cell? ⟨b, off + k * 2, none⟩ = some (.int .i64 u) := (hB.cell (p := ⟨b, off + k * 2, none⟩) hbl).trans c0
      have d1 : wr.cell? ⟨b, off + k * 2 + 1, none⟩ = some (.int .i64 v) := (hB.cell (p := ⟨b, off + k * 2 + 1, none⟩) hbl).trans c1
      obtain ⟨q1, q2⟩ := hin.out _ (List.mem_of_getElem? hpk.out)
      simp only at q1 q2
      obtain ⟨s2, h2⟩ := nm (ofL (bytesD (u, v)))
      have l2 : s2.size ≤ 20 := by rw [h2.out, ofL_size]; exact bytesD_le _ ⟨q1, q2⟩
      have HT : Hid (t ++ s2 = s0 ++ ofL (namesD (ps.take (k + 1)))) := by
        show _ = _
        rw [hT.out, h2.out, take_snocP hpk.out, namesD_snoc, ← ofL_append, app_assoc]
      have hts : (t ++ s2).size ≤ 10 + 20 * (k + 1) := by rw [app_size]; omega
      clear c0 c1 hT
      go_wp2_with fail
      refine (refbytes_any u v _ q1 q2 s2 h2).mono ?_; rintro e w3 ⟨rfl, hB3⟩
      clear d0 d1
      go_wp2_with fail
      go_roundw
      case rel => exact ⟨k + 1, t ++ s2, by omega, by go_num, rfl, hts, bNext hB hB3, HT⟩
      case measure => simp [intOf]; omega
    · obtain rfl : k = n := by omega
      have HE : Hid (t = s) := by
        show _ = _
        rw [hT.out, hss.out, h0.out, List.take_of_length_le (by rw [hn.out]; exact Nat.le_refl _), ofL_append, rowD, hn.out]
      go_wp2_with fail
      go_ret
      rw [HE.out]
      exact ⟨rfl, hB⟩
end Go.Proofs.Ythhcooabfgegaaa
