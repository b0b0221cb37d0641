/- view.Join. -/
import Derived.Test.YtpolhdkjkidpgaaViewJoin
import Derived.Test.YtpolhdkjkidpgaaViewSort
import Derived.Carry
namespace Go.Proofs.Ytpolhdkjkidpgaa
open Go.RowKit Go.Maps Go.Sort Go.Shelf Go.Lib

theorem ownsMap_size {w : World} {b n : Nat} {D : DataW Unit} (h : w.ownsMap Try.prog 3 peerEl b n D) : Maps.size D ≤ n := by
  obtain ⟨es, clock, hb, F, hs, rfl⟩ := h
  rw [Maps.size_eq, length_sorted]
  simpa using hs

set_option maxRecDepth 100000 in
set_option maxHeartbeats 4000000 in
theorem join_any (n1 n2 c1 c2 : Nat) (a1 a2 : Option Addr) (A B : List P3) (h1 : Hid (A.length = n1)) (h2 : Hid (B.length = n2)) (hm1 : n1 ≤ 1000) (hm2 : n2 ≤ 1000) (hwf : Hid (∀ p ∈ A ++ B, (Lit.int .i64 p.1).wf = true)) (T : List P3) (K : Nat) (hT : Hid ((joinL [] (A ++ B)).take 64 = T)) (hK : Hid (T.length = K)) (w : World)
    (hs1 : SlT w a1 A) (hs2 : SlT w a2 B) (hn1 : a1 = none → c1 = 0) (hn2 : a2 = none → c2 = 0) :
    Calls Try.prog 11 #[.slice a1 n1 c1, .slice a2 n2 c2] w fun e w' => ∃ ao cap, e = .returned (.slice ao K cap) ∧ K ≤ cap ∧ (ao = none → cap = 0) ∧ SlT w' ao T ∧ Below w.heap.size w w' := by
  have HS1 := Lib.hid hs1
  have HS2 := Lib.hid hs2
  have HN1 := Lib.hid hn1
  have HN2 := Lib.hid hn2
  have hmm := @run_makeMap Try.prog
  clear hs1 hs2 hn1 hn2
  go_enter Try.func11, Try.ntmps11
  go_wp2_with fail
  obtain ⟨mb, hmb⟩ := nm w.heap.size
  obtain ⟨w0, hw0⟩ := nm (((w.alloc (.map #[] 0)).alloc (.cells #[.map (some w.heap.size)] 50)).alloc (.cells #[.slice a1 n1 c1, .slice a2 n2 c2] 22))
  have hB0 : Below w.heap.size w w0 := by rw [hw0.out]; exact bNew (bNew (bOld _) _) _
  have hs0 : w0.heap.size = mb + 3 := by rw [hw0.out, hmb.out]; simp
  have hbx : Blk w0 (mb + 1) #[.map (some mb)] 50 := by
    rw [hw0.out, hmb.out]
    exact (blk_at (by simp)).alloc _
  have hbb : Blk w0 (mb + 1 + 1) #[.slice a1 n1 c1, .slice a2 n2 c2] 22 := by
    rw [hw0.out, hmb.out]
    exact blk_at (by simp)
  have hpm : PM w0 mb 0 (.map []) [] := by
    rw [hw0.out, hmb.out]
    refine (PM.made w).kept ?_
    rw [Below.heap_alloc _ _ _ (by simp; omega), Below.heap_alloc _ _ _ (by simp)]
  rw [← hw0.out, ← hmb.out]
  have hn1 := HN1.out
  have hcc := concat_any (mb + 1 + 1) n1 n2 c1 c2 a1 a2 A B h1 h2 hm1 hm2 w0 (hbb.cell 0) (hbb.cell 1) (HS1.out.below hB0) (HS2.out.below hB0) HN1.out HN2.out
  have HC := Lib.hid hcc
  have HB0 := Lib.hid hB0
  have HX := Lib.hid hbx
  have HPM := Lib.hid hpm
  clear hcc hB0 hbx hpm hbb hn1
  refine HC.out.mono ?_; rintro e w1 ⟨v1, rfl, hown, hB1⟩
  obtain ⟨ao, cap, rfl, hcl, _, hsl, hno, hbase⟩ := hown.sl
  obtain ⟨N, hN⟩ := nm (A ++ B).length
  have hN2 : N ≤ 2000 := by rw [hN.out, List.length_append, h1.out, h2.out]; omega
  rw [← hN.out] at hcl ⊢
  have HSL := Lib.hid hsl
  have hX1 := Blk.below HX.out hB1 HX.out.lt
  have HX1 := Lib.hid hX1
  have HPM1 : Hid (PM w1 mb 0 (.map []) []) := HPM.out.kept (hB1.block mb (by omega))
  have HB1 : Hid (Below w.heap.size w w1) := bNext HB0.out hB1
  have hs1 : mb + 3 ≤ w1.heap.size := by have := hB1.size; omega
  obtain ⟨L, hL⟩ := nm (A ++ B)
  rw [← hL.out] at hN HSL hwf hT
  have hmbw : mb = w.heap.size := hmb.out
  have HMB := Lib.hid hmbw
  clear hown hsl hX1 hB1 hmbw
  go_wp2_with fail
  go_loopw [17] (fun i wr => ∃ (k : Nat) (D : DataW Unit), k ≤ N ∧ i = .int .i64 (k : Int) ∧ PM wr mb k D (joinL [] (L.take k)) ∧ Kept mb w1 wr) (fun i _ => N - (intOf i).toNat)
  case atStart => exact ⟨0, _, by omega, rfl, HPM1.out, Kept.refl _ _⟩
  case round =>
    obtain ⟨k, D, hk, rfl, hpm, hkp⟩ := hrel
    by_cases hlt : k < N
    · obtain ⟨b, off, x, y, z, rfl, hbl, g0, g1, g2, hpk⟩ := HSL.out.get k (by rw [← hN]; exact hlt)
      have hbm : b ≠ mb := by have := hbase _ rfl; simp at this; omega
      have hbk : wr.heap[b]? = w1.heap[b]? := hkp.block b hbl hbm
      have d0 : wr.cell? ⟨b, off + k * 3, none⟩ = some (.int .i64 x) := by rw [← g0]; simp only [World.cell?, hbk]
      have d1 : wr.cell? ⟨b, off + k * 3 + 1, none⟩ = some (.int .i64 y) := by rw [← g1]; simp only [World.cell?, hbk]
      have d2 : wr.cell? ⟨b, off + k * 3 + 2, none⟩ = some (.int .i64 z) := by rw [← g2]; simp only [World.cell?, hbk]
      have hX := hkp.blk HX1.out (by omega)
      have hTk : Hid (joinL [] (L.take (k + 1)) = putL (joinL [] (L.take k)) (x, y, z)) := by
        show _ = _
        have hkl : k < L.length := by rw [← hN]; exact hlt
        have he : L[k] = (x, y, z) := by have := hpk.out; rw [List.getElem?_eq_getElem hkl] at this; exact Option.some.inj this
        rw [List.take_succ_eq_append_getElem hkl, he]
        unfold joinL
        rw [List.foldl_append]; rfl
      have hwx : (Lit.int .i64 x).wf = true := hwf.out _ (List.mem_of_getElem? hpk.out)
      have hput := put_any x y z (mb + 1) mb k D (joinL [] (L.take k)) (wr.alloc (.cells #[.int .i64 x, .int .i64 y, .int .i64 z] 32)) ((hX.alloc _).cell 0) (hpm.kept (Below.heap_alloc _ _ _ hpm.own.lt)) (by omega) hwx
      have HPUT := Lib.hid hput
      have HKP := Lib.hid hkp
      clear g0 g1 g2 hput hX hpm hkp hbk hwx
      go_wp2_with fail
      refine HPUT.out.mono ?_; rintro e w2 ⟨rfl, ⟨D', hpm2⟩, hk2⟩
      have hkp2 : Kept mb w1 w2 := (HKP.out.alloc _).trans hk2
      go_wp2_with fail
      go_roundw
      case rel => exact ⟨k + 1, D', by omega, by go_num, by rw [hTk.out]; exact hpm2, hkp2⟩
      case measure => simp [intOf]; omega
    · obtain rfl : k = N := by omega
      rw [List.take_of_length_le (by rw [← hN]; exact Nat.le_refl _)] at hpm
      obtain ⟨S, hS⟩ := nm (joinL [] L)
      rw [← hS.out] at hpm hT
      obtain ⟨M, hM⟩ := nm S.length
      have hMl : M ≤ 2000 := by
        have h0 := joinL_length L []
        rw [← hS.out, ← hM.out] at h0
        have hLl := hN.out
        simp at h0
        omega
      have hX := hkp.blk HX1.out (by omega)
      have x0 : wr.cell? ⟨mb + 1, 0, none⟩ = some (.map (some mb)) := hX.cell 0
      have hsz : Maps.size D ≤ 1000000 := by have := ownsMap_size hpm.own; omega
      have hsort := sorted_any wr.heap.size mb k D S (wr.alloc (.cells #[.map (some mb)] 50)) ((Blk.new _ _ _).cell 0) (hpm.kept (Below.heap_alloc _ _ _ hpm.own.lt)) hsz (by rw [← hM.out]; omega)
      rw [← hM.out] at hsort
      have HSO := Lib.hid hsort
      have hBr : Below w.heap.size w wr := HB1.out.trans (hkp.below (by rw [← HMB.out]; exact Nat.le_refl _) HB1.out.size)
      have HBR := Lib.hid hBr
      obtain ⟨J, hJ⟩ := nm (min M 64)
      have hJK : J = K := by rw [hJ.out, hM.out, ← hK.out, ← hT.out, List.length_take]; omega
      have hmin : min (M : Int) 64 = (J : Int) := by rw [hJ.out]; omega
      have HMIN := Lib.hid hmin
      clear hsort hX hpm hkp hBr hmin
      go_wp2_with fail
      refine (values_any (some mb) wr).mono ?_; rintro e w2 ⟨rfl, rfl⟩
      go_wp2_with fail
      refine HSO.out.mono ?_; rintro e w3 ⟨ao3, cap3, rfl, hc3, hno3, hsl3, hB3⟩
      have hmin := HMIN.out
      have hJc : J ≤ cap3 := by omega
      have hJM : J ≤ M := by omega
      have HR : Hid (SlT w3 ao3 T) := by show SlT _ _ _; rw [← hT.out]; exact hsl3.take 64
      have HBF : Hid (Below w.heap.size w w3) := bNext (bNew HBR.out _) hB3
      clear hsl3 hB3
      go_wp2_with fail
      go_ret
      exact ⟨ao3, cap3, by rw [← hJK]; rfl, by omega, hno3, HR.out, HBF.out⟩
end Go.Proofs.Ytpolhdkjkidpgaa
