/- The reader's Nums, whole. -/
import Derived.Test.YtfpjdmplepepjaaNext
import Derived.Test.YtfpjdmplepepjaaSlices
namespace Go.Proofs.Ytfpjdmplepepjaa
open Go.RowKit

/-- So many numbers are read, none above most. -/
def Rd.items (most : Int) : Nat → Rd → Rd × Option (List Int)
  | 0, r => (r, some [])
  | k + 1, r => if (r.int most).1.torn then ((r.int most).1, none) else ((Rd.items most k (r.int most).1).1, (Rd.items most k (r.int most).1).2.map (((r.int most).2 : Int) :: ·))
def Rd.nums (r : Rd) (many most : Int) : Rd × List Int := ((Rd.items most (r.int many).2 (r.int many).1).1, (Rd.items most (r.int many).2 (r.int many).1).2.getD [])

theorem Rd.num_uses (r : Rd) (h : r.num.1.torn = false) : r.torn = false ∧ r.num.1.left.size + 1 ≤ r.left.size := by
  unfold Rd.num at h ⊢
  split at h
  · rename_i ht; simp only at h; rw [ht] at h; cases h
  · rename_i ht
    rw [if_neg ht]
    split at h
    · rename_i n l hq
      have h2 := (Pl.rdG_lt _ _ _ _ _ _ hq).2
      rw [bl_length] at h2
      exact ⟨by simpa using ht, by simp only [ofL_size]; omega⟩
    · cases h
theorem Rd.int_uses (r : Rd) (m : Int) (h : (r.int m).1.torn = false) : r.torn = false ∧ (r.int m).1.left.size + 1 ≤ r.left.size := by
  unfold Rd.int at h ⊢
  split at h
  · cases h
  · rename_i hc
    rw [if_neg hc]
    exact r.num_uses h
theorem Rd.int_none (r : Rd) (m : Int) (h : (r.int m).2 ≠ 0) : (r.int m).1.torn = false := by
  unfold Rd.int at h ⊢
  split at h
  · exact absurd rfl h
  · rename_i hc
    rw [if_neg hc]
    unfold Rd.num at h ⊢
    split at h
    · exact absurd rfl h
    · rename_i ht
      rw [if_neg ht]
      split at h
      · rfl
      · exact absurd rfl h

/-- A slice that a call owns, as its elements. -/
theorem SlAt.own {w : World} {base : Nat} {v : Value} {zs : List Int} (h : w.ownsRow base 3 1 v zs.length (zs.map (Value.int .i64))) :
    ∃ ao cap, v = .slice ao zs.length cap ∧ zs.length ≤ cap ∧ SlAt w ao (zs.map (Value.int .i64)) := by
  rcases h.2 with ⟨rfl, h0⟩ | ⟨g, cap, cur, rfl, _, hg, hc, _, _, ht⟩
  · exact ⟨none, 0, by rw [h0], by omega, fun k hk => by rw [List.length_map, h0] at hk; omega⟩
  · refine ⟨some ⟨g, 0, none⟩, cap, rfl, hc, fun k _ => ⟨g, 0, rfl, lt_of_block hg, fun j hj => ?_⟩⟩
    rw [List.length_map] at hj
    rw [Nat.zero_add, ← ht, List.getElem?_take, if_pos (by omega)]
    simp [World.cell?, hg]

theorem Holds.start {b : Nat} {r : Rd} {most : Int} {w w1 : World} {o1 o2 o3 : Obj} (e1 : o1 = .cells #[.pointer (some ⟨b, 0, none⟩)] 71) (e2 : o2 = .cells #[.int .i64 most] 3) (e3 : o3 = .cells #[.slice none 0 0] 60)
    (hb : b < w.heap.size) (hk : Kept b (((w.alloc o1).alloc o2).alloc o3) w1) (hr : IsRd w1 b r) :
    Holds (w.heap.size + 3) b (w.heap.size + 1 + 1) w.heap.size (w.heap.size + 1) r most (.slice none 0 0) [] w1 := by
  subst e1 e2 e3
  have hs := hk.size
  simp at hs
  refine ⟨by omega, by omega, by omega, by omega, by omega, by omega, by omega, by omega, by omega, by omega, hr, ?_, ?_, ?_, ⟨rfl, .inl ⟨rfl, rfl⟩⟩⟩
  · have := hk.blk (Blk.new ((w.alloc (.cells #[.pointer (some ⟨b, 0, none⟩)] 71)).alloc (.cells #[.int .i64 most] 3)) #[.slice none 0 0] 60) (by simp; omega)
    simpa using this
  · exact hk.blk (((Blk.new w _ _).alloc _).alloc _) (by omega)
  · have := hk.blk ((Blk.new (w.alloc (.cells #[.pointer (some ⟨b, 0, none⟩)] 71)) #[.int .i64 most] 3).alloc (.cells #[.slice none 0 0] 60)) (by simp; omega)
    simpa using this

theorem Past.kept {b o base : Nat} {w w1 w2 : World} (hk : Kept b w w1) (hP : Past base b o w1 w2) (h1 : w.heap.size ≤ base) (h2 : w.heap.size ≤ o) : Kept b w w2 :=
  ⟨hP.os.trans hk.os, hP.tape.trans hk.tape, hP.output.trans hk.output, Nat.le_trans hk.size hP.size, fun k hk' hne => (hP.block k (by omega) hne (by omega)).trans (hk.block k hk' hne)⟩

set_option maxRecDepth 100000 in
set_option maxHeartbeats 4000000 in
theorem rnums_any (b : Nat) (r : Rd) (many most : Int) (w : World) (hr : IsRd w b r) (hs : r.left.size ≤ 1000000) (hm : many ≤ 9223372036854775807) (hm2 : most ≤ 9223372036854775807) :
    Calls Try.prog 37 #[.pointer (some ⟨b, 0, none⟩), .int .i64 many, .int .i64 most] w fun e w' =>
      ∃ ao cap, e = .returned (.slice ao (r.nums many most).2.length cap) ∧ (r.nums many most).2.length ≤ cap ∧ SlAt w' ao ((r.nums many most).2.map (Value.int .i64)) ∧ IsRd w' b (r.nums many most).1 ∧ Kept b w w' := by
  have hbl := hr.lt
  obtain ⟨i1, i2, i3⟩ := r.int_lt many
  have i4 := r.int_none many
  have i5 := r.int_uses many
  obtain ⟨q, hq⟩ := nm (r.int many).1
  obtain ⟨n, hn⟩ := nm (r.int many).2
  rw [← hq.out] at i2 i4 i5
  rw [← hn.out] at i1 i3 i4
  have hn63 : n ≤ 9223372036854775807 := by omega
  obtain ⟨Q, hQ⟩ := nm (r.nums many most)
  have hq2 : Q = ((Rd.items most n q).1, (Rd.items most n q).2.getD []) := by rw [hQ.out, Rd.nums, hn.out, hq.out]
  rw [← hQ.out]
  have HQ := Lib.hid hq2
  clear hq2
  have I4 := Lib.hid i4
  have I5 := Lib.hid i5
  clear i4 i5 i3
  go_enter Try.func37, Try.ntmps37
  go_wp2_with fail
  refine (rint_any b r many _ (((hr.alloc _).alloc _).alloc _) (by omega) hm).mono ?_; rintro e w1 ⟨rfl, h1, hk⟩
  rw [← hq.out] at h1
  rw [← hn.out]
  have hH := Holds.start rfl rfl rfl hbl hk h1
  have hP : Past (w.heap.size + 3) b (w.heap.size + 1 + 1) w1 w1 := Past.refl _ _ _ _
  replace hk := (((Kept.refl b w).alloc _).alloc _).alloc _ |>.trans hk
  clear h1
  go_wp2_with fail
  go_loopw [13] (fun i wr => ∃ (k : Nat) (ri : Rd) (v : Value) (zs : List Int), k ≤ n ∧ i = .int .i64 (k : Int) ∧ zs.length = k ∧ Holds (w.heap.size + 3) b (w.heap.size + 1 + 1) w.heap.size (w.heap.size + 1) ri most v zs wr ∧ Past (w.heap.size + 3) b (w.heap.size + 1 + 1) w1 wr ∧
    (k < n → ri.torn = false) ∧ ri.left.size + k ≤ 1000000 ∧ Hid (Rd.items most n q = ((Rd.items most (n - k) ri).1, (Rd.items most (n - k) ri).2.map (zs ++ ·)))) (fun i _ => n - (intOf i).toNat)
  case atStart => exact ⟨0, q, _, [], by omega, rfl, rfl, hH, hP, fun h => I4.out (by omega), by omega, Lib.hid (by simp)⟩
  case round =>
    clear hH hP
    obtain ⟨k, ri, v, zs, hkn, rfl, hz, hH, hP, ht, hsz, hI⟩ := hrel
    by_cases hlt : k < n
    · have hfine := ht hlt
      obtain ⟨e1, e2, e3⟩ := ri.int_lt most
      have u1 := ri.int_uses most
      have hst : Rd.items most (n - k) ri = if (ri.int most).1.torn then ((ri.int most).1, none) else ((Rd.items most (n - (k + 1)) (ri.int most).1).1, (Rd.items most (n - (k + 1)) (ri.int most).1).2.map (((ri.int most).2 : Int) :: ·)) := by
        rw [show n - k = (n - (k + 1)) + 1 from by omega, Rd.items]
      obtain ⟨rj, hj⟩ := nm (ri.int most).1
      obtain ⟨z, hzz⟩ := nm (ri.int most).2
      go_wp2_with fail
      refine (next_any _ hH (by omega) hm2 (by omega)).mono ?_; rintro e w2 ⟨rfl, v', hH2, hP2⟩
      rw [← hj.out, ← hzz.out] at hH2
      rw [← hj.out]
      have hP3 := hP.trans hP2
      clear hH hP hP2
      rw [← hj.out, ← hzz.out] at hst
      rw [← hj.out] at e2 u1
      have htt : rj.torn = false ∨ rj.torn = true := by cases rj.torn <;> simp
      rcases htt with htt | htt
      · have u2 := (u1 htt).2
        rw [htt] at hst ⊢
        rw [if_neg (by decide)] at hst
        have HI : Hid (Rd.items most n q = ((Rd.items most (n - (k + 1)) rj).1, (Rd.items most (n - (k + 1)) rj).2.map ((zs ++ [(z : Int)]) ++ ·))) := by
          show _ = _
          rw [hI.out, hst]
          simp only [Option.map_map]
          congr 2
          funext l
          simp
        clear hst hI u1
        go_wp2_with fail
        go_roundw
        case rel => exact ⟨k + 1, rj, v', zs ++ [(z : Int)], by omega, by go_num, by simp [hz], hH2, hP3, fun _ => htt, by omega, HI⟩
        case measure => simp [intOf]; omega
      · have HE : Hid (Q = (rj, [])) := by
          show _ = _
          rw [HQ.out, hI.out, hst, htt]; rfl
        clear hst hI u1
        rw [htt]
        go_wp2_with fail
        go_ret
        rw [HE.out]
        exact ⟨none, 0, rfl, Nat.le_refl _, (fun k hk => by simp at hk), hH2.rd, hP3.kept hk (by omega) (by omega)⟩
    · obtain rfl : k = n := by omega
      have HE : Hid (Q = (ri, zs)) := by
        show _ = _
        rw [HQ.out, hI.out, Nat.sub_self]
        simp [Rd.items]
      obtain ⟨ao, cap, rfl, hcap, hsl⟩ := SlAt.own hH.own
      have cO := hH.out.cell 0
      have cO2 : wr.cell? ⟨w.heap.size + 1 + 1, 0, none⟩ = some (.slice ao zs.length cap) := cO
      clear cO
      go_wp2_with fail
      go_ret
      rw [HE.out]
      exact ⟨ao, cap, (by show _ = Ending.returned (Value.slice ao zs.length cap); rw [hz]; rfl), hcap, hsl, hH.rd, hP.kept hk (by omega) (by omega)⟩

end Go.Proofs.Ytfpjdmplepepjaa
