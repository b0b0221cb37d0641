/- The document's reader, the last: Nums. -/
import Derived.Test.YtnahdhhojjicjaaReaderRefB
namespace Go.Proofs.Ytnahdhhojjicjaa
open Go.RowKit

theorem Kept.owns {b base : Nat} {w w' : World} {v : Value} {zs : List Int} (hk : Kept b w w') (h : w.ownsRow base 3 1 v zs.length (zs.map (Value.int .i64))) (hb : b < base) : w'.ownsRow base 3 1 v zs.length (zs.map (Value.int .i64)) := by
  have hg : w.grownBy w' (some b) := ⟨hk.os, hk.tape, hk.output, hk.size, fun k hk' hne => hk.block k hk' (fun e => hne (by rw [e]))⟩
  refine h.kept hg ?_
  cases hv : v.ownBlock with
  | none => exact .inl rfl
  | some g =>
    right
    intro e
    have := (h.lt g hv).1
    cases e
    omega

set_option maxRecDepth 100000 in
set_option maxHeartbeats 4000000 in
theorem refrnums_any (b : Nat) (r : Rd) (many most : Int) (w : World) (hr : IsRr w b r) (hs : r.left.size ≤ 1000000) (hm : many ≤ 9223372036854775807) (hm2 : most ≤ 9223372036854775807) :
    Calls Try.prog 30 #[.pointer (some ⟨b, 0, none⟩), .int .i64 many, .int .i64 most] w fun e w' =>
      ∃ ao cap, e = .returned (.slice ao (r.nums many most).2.length cap) ∧ (r.nums many most).2.length ≤ cap ∧ SlAt w' ao ((r.nums many most).2.map (Value.int .i64)) ∧ IsRr w' b (r.nums many most).1 ∧ Kept b w w' := by
  have hbl := hr.lt
  obtain ⟨i1, i2, i3⟩ := r.int_lt many
  have i4 := r.int_torn0 many
  have i5 := r.int_uses many
  obtain ⟨q, hq⟩ := nm (r.int many).1
  obtain ⟨n, hn⟩ := nm (r.int many).2
  rw [← hq.out] at i2 i4 i5
  rw [← hn.out] at i1 i3 i4
  have hn63 : n ≤ 9223372036854775807 := by omega
  obtain ⟨Q, hQ⟩ := nm (r.nums many most)
  have hq2 : Q = ((Rd.items most n q).1, (Rd.items most n q).2.getD []) := by rw [hQ.out, Rd.nums, hn.out, hq.out]
  rw [← hQ.out]
  have HQ := Lib.hid hq2
  clear hq2
  have I4 := Lib.hid i4
  clear i4 i5 i3
  obtain ⟨i0, hi, hz0, hz1, hz2⟩ := info_parts infoInt
  go_enter Try.func30, Try.ntmps30
  go_wp2_with fail
  refine (refrint_any b r many _ hr (by omega) hm).mono ?_; rintro e w1 ⟨rfl, h1, hk⟩
  rw [← hq.out] at h1
  rw [← hn.out]
  go_wp2_with fail
  go_loopw [8, 9] (fun v i wr => ∃ (k : Nat) (ri : Rd) (zs : List Int), k ≤ n ∧ i = .int .i64 (k : Int) ∧ zs.length = k ∧ IsRr wr b ri ∧ wr.ownsRow w.heap.size 3 1 v zs.length (zs.map (Value.int .i64)) ∧ Kept b w wr ∧
    ri.left.size + k ≤ 1000000 + 1 ∧ Hid ((ri.torn = true → Q = (ri, [])) ∧ (ri.torn = false → ri.left.size + k ≤ 1000000 ∧ Rd.items most n q = ((Rd.items most (n - k) ri).1, (Rd.items most (n - k) ri).2.map (zs ++ ·))))) (fun _ i _ => n - (intOf i).toNat)
  case atStart =>
    refine ⟨0, q, [], by omega, rfl, rfl, h1, ⟨rfl, .inl ⟨rfl, rfl⟩⟩, hk, by omega, ⟨fun ht => ?_, fun _ => ⟨by omega, by simp⟩⟩⟩
    rw [HQ.out, I4.out ht]; rfl
  case round =>
    clear h1 hk
    obtain ⟨k, ri, zs, hkn, rfl, hz, hR, hown, hK, hsz, hI⟩ := hrel
    obtain ⟨hI1, hI2⟩ := hI.out
    clear hI
    have htt : ri.torn = false ∨ ri.torn = true := by cases ri.torn <;> simp
    have c1 : wr.cell? ⟨b, 1, none⟩ = some (.bool ri.torn) := hR.cell 1
    rcases htt with htt | htt
    · rw [htt] at c1
      obtain ⟨hsz2, hI⟩ := hI2 htt
      clear hI1 hI2
      have HI0 := Lib.hid hI
      clear hI
      by_cases hlt : k < n
      · obtain ⟨e1, e2, e3⟩ := ri.int_lt most
        have u1 := ri.int_uses most
        have hst : Rd.items most (n - k) ri = if (ri.int most).1.torn then ((ri.int most).1, none) else ((Rd.items most (n - (k + 1)) (ri.int most).1).1, (Rd.items most (n - (k + 1)) (ri.int most).1).2.map (((ri.int most).2 : Int) :: ·)) := by
          rw [show n - k = (n - (k + 1)) + 1 from by omega, Rd.items]
        obtain ⟨rj, hj⟩ := nm (ri.int most).1
        obtain ⟨z, hzz⟩ := nm (ri.int most).2
        have HIN : Hid ((rj.torn = true → Q = (rj, [])) ∧ (rj.torn = false → rj.left.size + (k + 1) ≤ 1000000 ∧ Rd.items most n q = ((Rd.items most (n - (k + 1)) rj).1, (Rd.items most (n - (k + 1)) rj).2.map ((zs ++ [(z : Int)]) ++ ·)))) := by
          rw [← hj.out] at hst u1
          rw [← hzz.out] at hst
          refine ⟨fun ht => ?_, fun ht => ⟨by have := (u1 ht).2; omega, ?_⟩⟩
          · rw [ht, if_pos rfl] at hst
            rw [HQ.out, HI0.out, hst]; rfl
          · rw [ht, if_neg (by decide)] at hst
            rw [HI0.out, hst]
            simp only [Option.map_map]
            congr 2
            funext l
            simp
        rw [← hj.out] at e2
        clear hst u1 HI0
        obtain ⟨L, hL⟩ := nm (zs.map (Value.int .i64))
        go_wp2_with fail
        refine (refrint_any b ri most _ hR (by omega) hm2).mono ?_; rintro e w2 ⟨rfl, hR2, hk2⟩
        rw [← hj.out] at hR2
        rw [← hzz.out]
        replace hown := hk2.owns hown hbl
        replace hK := hK.trans hk2
        clear hR hk2 c1
        have hks := hK.size
        rw [← hL.out] at hown
        go_wp2_with (at_builtin; refine wpList_append_lies _ rfl _ _ 26 rfl w.heap.size 3 i0 (.int .i64 0) 1 8 Try.underlying26 hi hz0 hz1 hz2 rfl (by decide) _ zs.length _ rfl (hown.alloc _) ⟨w2.heap.size, 0, none⟩ 1 1 [.int .i64 z] rfl rfl (World.news_of_block (heap_alloc_new w2 _)) (by simp [Value.oneCell']) (by decide) (by unfold maxLen; omega) (by omega) (Nat.le_trans hks (by simp)) _ rfl ?_)
        intro g cap2 w3 hown2 hgrow _ _
        have hR3 := grown_blk hgrow (hR2.alloc _) (fun e => by have := (hown.lt b e.symm).1; omega)
        have hK3 : Kept b w w3 :=
          ⟨hgrow.os.trans hK.os, hgrow.tape.trans hK.tape, hgrow.output.trans hK.output, Nat.le_trans (Nat.le_trans hks (by simp)) hgrow.size, fun i hi' hb' =>
            (hgrow.block i (by simp; omega) (by intro e; have := (hown.lt i e.symm).1; omega)).trans ((Below.heap_alloc _ _ _ (by omega)).trans (hK.block i hi' hb'))⟩
        have hown3 : w3.ownsRow w.heap.size 3 1 (.slice (some ⟨g, 0, none⟩) (k + 1) cap2) (zs ++ [(z : Int)]).length ((zs ++ [(z : Int)]).map (Value.int .i64)) := by
          rw [List.length_append, List.map_append, ← hL.out, List.length_singleton, hz]; exact hown2
        clear hown hown2 hgrow hK hR2
        go_wp2_with fail
        go_roundw
        case rel => exact ⟨k + 1, rj, zs ++ [(z : Int)], by omega, by go_num, by simp [hz], hR3, hown3, hK3, by omega, HIN⟩
        case measure => simp [intOf]; omega
      · obtain rfl : k = n := by omega
        have HE : Hid (Q = (ri, zs)) := by
          show _ = _
          rw [HQ.out, HI0.out, Nat.sub_self]
          simp [Rd.items]
        obtain ⟨ao, cap, rfl, hcap, hsl⟩ := SlAt.own hown
        go_wp2_with fail
        go_ret
        rw [HE.out]
        exact ⟨ao, cap, rfl, hcap, hsl, hR, hK⟩
    · rw [htt] at c1
      have HE := Lib.hid (hI1 htt)
      clear hI1 hI2
      go_wp2_with fail
      all_goals
        go_ret
        rw [HE.out]
        exact ⟨none, 0, rfl, Nat.le_refl _, (fun k hk => by simp at hk), hR, hK⟩

end Go.Proofs.Ytnahdhhojjicjaa
