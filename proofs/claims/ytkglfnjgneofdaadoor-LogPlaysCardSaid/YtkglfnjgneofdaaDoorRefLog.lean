/- The walks of the document's log: Add, Sync, Begin. -/
import Derived.Test.YtkglfnjgneofdaaDoorLogC
import Derived.Test.YtkglfnjgneofdaaDoorDiskR
namespace Go.Proofs.YtkglfnjgneofdaaDoor
open Go.RowKit

/-- Block b holds the document's log l on the document's disk of block db. -/
def IsRg (w : World) (b db : Nat) (l : Lg) : Prop := Blk w b (l.cells db) 58
theorem IsRg.setN {w : World} {b db : Nat} {l : Lg} (h : IsRg w b db l) (x : Int) : IsRg (w.setCell ⟨b, 1, none⟩ (.int .i64 x)) b db { l with n := x } := Blk.set h 1 (.int .i64 x)
theorem IsRg.setSize {w : World} {b db : Nat} {l : Lg} (h : IsRg w b db l) (x : Int) : IsRg (w.setCell ⟨b, 2, none⟩ (.int .i64 x)) b db { l with size := x } := Blk.set h 2 (.int .i64 x)
theorem IsRg.setBroken {w : World} {b db : Nat} {l : Lg} (h : IsRg w b db l) (x : Bool) : IsRg (w.setCell ⟨b, 3, none⟩ (.bool x)) b db { l with broken := x } := Blk.set h 3 (.bool x)

set_option maxRecDepth 100000 in
set_option maxHeartbeats 1000000 in
theorem done_any (b db : Nat) (n sz : Int) (x : Int) (w : World) (hl : IsRg w b db ⟨n, sz, false⟩) :
    Calls Tryd.prog 51 #[.pointer (some ⟨b, 0, none⟩), .int .i64 x] w fun e w' => e = .returned (.int .i64 x) ∧ IsRg w' b db ⟨n, sz, x == 14⟩ ∧ Kept b w w' := by
  by_cases hx : x = 14
  · subst hx
    have f3 : w.frozen? ⟨b, 3, none⟩ = false := hl.free 3
    have g3 : w.cell? ⟨b, 3, none⟩ = some (.bool false) := hl.cell 3
    go_enter Tryd.func51, Tryd.ntmps51
    go_wp2_with fail
    go_ret
    exact ⟨rfl, hl.setBroken true, (Kept.refl _ _).set _ _⟩
  · have hxb : (x == 14) = false := by simpa using hx
    rw [hxb]
    go_enter Tryd.func51, Tryd.ntmps51
    go_wp2_with fail
    go_ret
    exact ⟨rfl, hl, Kept.refl _ _⟩

theorem framesE_cases (rs : List ByteArray) : framesE rs = 0 ∨ framesE rs = 11 := by
  unfold framesE; split
  · exact .inl rfl
  · exact .inr rfl

set_option maxRecDepth 100000 in
set_option maxHeartbeats 4000000 in
theorem rframes_any (ao : Option Addr) (cap : Nat) (rs : List ByteArray) (hlen : rs.length ≤ 1000) (hsz : ∀ r ∈ rs, r.size ≤ 1000000) (w : World) (hat : SlAt w ao (rs.map Value.string)) :
    Calls Tryd.prog 52 #[.slice ao rs.length cap] w fun e w' => e = .returned (.tuple #[.string (framesB rs), .int .i64 (framesE rs)]) ∧ Below w.heap.size w w' := by
  have HAT := Lib.hid hat
  have HSZ := Lib.hid hsz
  clear hat hsz
  obtain ⟨len, hl⟩ := nm rs.length
  rw [← hl.out] at hlen ⊢
  go_enter Tryd.func52, Tryd.ntmps52
  go_wp2_with fail
  go_loopw [4, 5] (fun x i wr => ∃ (k : Nat) (S : ByteArray), k ≤ len ∧ x = .string S ∧ i = .int .i64 (k : Int) ∧ Hid (S = recB (rs.take k)) ∧ Below w.heap.size w wr ∧ Hid (∀ r ∈ rs.take k, r.size ≤ 8000)) (fun _ i _ => len - (intOf i).toNat)
  case atStart => exact ⟨0, _, by omega, rfl, rfl, rfl, Below.refl _ _, fun r hr => by simp at hr⟩
  case round =>
    obtain ⟨k, S, hk, rfl, rfl, hS, hW, hI⟩ := hrel
    by_cases hlt : k < len
    · obtain ⟨bs, off, rfl, hbs, hcell⟩ := SlAt.str HAT.out k (by rw [← hl.out]; exact hlt)
      obtain ⟨r, hr⟩ := nm (rs[k]'(by rw [← hl.out]; exact hlt))
      have hrs : r.size ≤ 1000000 := by rw [hr.out]; exact HSZ.out _ (List.getElem_mem _)
      rw [← hr.out] at hcell
      have hc : wr.cell? ⟨bs, off + k, none⟩ = some (.string r) := (hW.cell (p := ⟨bs, off + k, none⟩) hbs).trans hcell
      clear hcell
      by_cases h8 : r.size ≤ 8000
      · have hnx : rs.take (k + 1) = rs.take k ++ [r] := by rw [List.take_succ_eq_append_getElem (by rw [← hl.out]; exact hlt), ← hr.out]
        have HI : Hid (∀ r ∈ rs.take (k + 1), r.size ≤ 8000) := by
          show ∀ _, _
          rw [hnx]
          intro x hx
          rcases List.mem_append.1 hx with h | h
          · exact hI.out x h
          · rw [List.mem_singleton.1 h]; exact h8
        have hjl := joinF_le2 ((rs.take k).map bl) (fun b hb => by
          obtain ⟨x, hx, rfl⟩ := List.mem_map.1 hb
          rw [bl_length]; exact hI.out x hx)
        rw [List.length_map, List.length_take] at hjl
        have hSs : S.size ≤ 8004 * 1000 := by rw [hS.out, recB, ofL_size]; omega
        have hfl := frame_length (bl r)
        have hnd : Pl.nd (bl r).length ≤ 2 := by
          by_cases h : (bl r).length < 128
          · rw [nd_one h]; omega
          · rw [nd_two h (by rw [bl_length]; omega)]; omega
        rw [bl_length] at hfl hnd
        obtain ⟨F, hF⟩ := nm (ofL (frameL (bl r)))
        have hFs : F.size ≤ 8004 := by rw [hF.out, ofL_size]; omega
        have HS2 : Hid (S ++ F = recB (rs.take (k + 1))) := by
          show _ = _
          rw [hnx, recB_append, hS.out, hF.out]
          congr 1
          simp [recB, joinF]
        clear hfl hnd hjl hI hS hnx
        go_wp2_with fail
        refine (refwrap_any r _ (by omega)).mono ?_; rintro e w3 ⟨rfl, h1⟩
        rw [wrapL_yes (by rw [bl_length]; exact h8), wrapE_yes (by rw [bl_length]; exact h8), ← hF.out]
        have hW3 := bNext hW h1
        clear h1 hW hc
        go_wp2_with fail
        go_roundw
        case rel => exact ⟨k + 1, S ++ F, by omega, rfl, by go_num, HS2, hW3, HI⟩
        case measure => simp [intOf]; omega
      · have hno : rs.all (fun r => decide (r.size ≤ 8000)) = false := by
          rw [List.all_eq_false]
          exact ⟨r, by rw [hr.out]; exact List.getElem_mem _, by simpa using h8⟩
        have HE : Hid (framesB rs = ⟨#[]⟩ ∧ framesE rs = 11) := by
          rw [framesB, framesE, hno]
          exact ⟨rfl, rfl⟩
        clear hI hS
        go_wp2_with fail
        refine (refwrap_any r _ (by omega)).mono ?_; rintro e w3 ⟨rfl, h1⟩
        rw [wrapL_no (by rw [bl_length]; exact h8), wrapE_no (by rw [bl_length]; exact h8)]
        have hW3 := bNext hW h1
        clear h1 hW hc
        go_wp2_with fail
        go_ret2
        rw [HE.out.1, HE.out.2]
        exact ⟨rfl, hW3⟩
    · obtain rfl : k = len := by omega
      have e1 : rs.take k = rs := List.take_of_length_le (by rw [← hl.out]; exact Nat.le_refl _)
      have HE : Hid (framesB rs = S ∧ framesE rs = 0) := by
        have := frames_fine rs (fun r hr => hI.out r (by rw [e1]; exact hr))
        rw [hS.out, e1]
        exact this
      clear hI e1 hS
      go_wp2_with fail
      go_ret2
      rw [HE.out.1, HE.out.2]
      exact ⟨rfl, hW⟩

set_option maxRecDepth 100000 in
set_option maxHeartbeats 1000000 in
theorem radd_any (b db : Nat) (l : Lg) (d : Dk) (ao : Option Addr) (cap : Nat) (rs : List ByteArray) (w : World) (hl : IsRg w b db l) (hd : IsRf w db d) (hne : b ≠ db) (hlen : rs.length ≤ 1000) (hsz : ∀ r ∈ rs, r.size ≤ 1000000)
    (hf : d.Fit) (hln : 0 ≤ l.n ∧ l.n ≤ 1000000) (hls : 0 ≤ l.size ∧ l.size ≤ 1000000000) (hat : SlAt w ao (rs.map Value.string)) :
    Calls Tryd.prog 34 #[.pointer (some ⟨b, 0, none⟩), .slice ao rs.length cap] w fun e w' =>
      e = .returned (.int .i64 (l.add d rs).2.2) ∧ IsRg w' b db (l.add d rs).1 ∧ IsRf w' db (l.add d rs).2.1 ∧ Kept2 b db w w' := by
  obtain ⟨n, sz, br⟩ := l
  simp only at hln hls
  have c3 : w.cell? ⟨b, 3, none⟩ = some (.bool br) := hl.cell 3
  cases br
  rotate_left
  · rw [show (Lg.mk n sz true).add d rs = (⟨n, sz, true⟩, d, 13) from rfl]
    go_enter Tryd.func34, Tryd.ntmps34
    go_wp2_with fail
    go_ret
    exact ⟨rfl, hl, hd, Kept2.refl _ _ _⟩
  have HF := Lib.hid (rframes_any ao cap rs hlen hsz w hat)
  have hfs := framesB_size rs
  have hEc := framesE_cases rs
  have hadd : (Lg.mk n sz false).add d rs = (((Lg.mk n sz false).addP d rs).1.done ((Lg.mk n sz false).addP d rs).2.2, ((Lg.mk n sz false).addP d rs).2) := rfl
  unfold Lg.addP at hadd
  obtain ⟨Q, hQ⟩ := nm ((Lg.mk n sz false).add d rs)
  rw [← hQ.out] at hadd ⊢
  obtain ⟨F, hFF⟩ := nm (framesB rs)
  obtain ⟨E, hEE⟩ := nm (framesE rs)
  rw [← hFF.out] at hadd hfs HF
  rw [← hEE.out] at hadd hEc HF
  clear hat hsz hQ hFF hEE
  obtain ⟨hs1, hst, hle⟩ := hf
  have hbl := hl.lt
  have hdl := hd.lt
  rcases hEc with rfl | rfl
  rotate_left
  · rw [if_pos (by decide)] at hadd
    have hq : Q = (⟨n, sz, false⟩, d, 11) := hadd
    clear hadd
    go_enter Tryd.func34, Tryd.ntmps34
    go_wp2_with fail
    refine HF.out.mono ?_; rintro e w1 ⟨rfl, hB⟩
    go_wp2_with fail
    go_ret
    rw [hq]
    exact ⟨rfl, Blk.below hl hB hbl, Blk.below hd hB hdl, Kept2.ofBelow hB⟩
  rw [if_neg (by simp)] at hadd
  by_cases hm0 : rs.length = 0
  · rw [if_pos hm0] at hadd
    have hq : Q = (⟨n, sz, false⟩, d, 0) := hadd
    clear hadd
    rw [hm0] at HF ⊢
    go_enter Tryd.func34, Tryd.ntmps34
    go_wp2_with fail
    refine HF.out.mono ?_; rintro e w1 ⟨rfl, hB⟩
    go_wp2_with fail
    go_ret
    rw [hq]
    exact ⟨rfl, Blk.below hl hB hbl, Blk.below hd hB hdl, Kept2.ofBelow hB⟩
  rw [if_neg hm0] at hadd
  have hmb : ((rs.length : Int) == 0) = false := by rw [beq_eq_false_iff_ne]; omega
  obtain ⟨⟨d2, x⟩, hx⟩ := nm (d.append F)
  rw [← hx.out] at hadd
  simp only at hadd
  go_enter Tryd.func34, Tryd.ntmps34
  go_wp2_with fail
  refine HF.out.mono ?_; rintro e w1 ⟨rfl, hB⟩
  have hl1 : IsRg w1 b db ⟨n, sz, false⟩ := Blk.below hl hB hbl
  have hd1 := Blk.below hd hB hdl
  have hk1 : Kept2 b db w w1 := Kept2.ofBelow hB
  have c0 : w1.cell? ⟨b, 0, none⟩ = some (.pointer (some ⟨db, 0, none⟩)) := hl1.cell 0
  go_wp2_with fail
  refine (rappend_any db d F _ hd1 (by omega) (by omega) hle).mono ?_; rintro e w2 ⟨rfl, hd2, hk2⟩
  rw [← hx.out] at hd2 ⊢
  clear hx
  simp only at hd2 ⊢
  have hl2 : IsRg w2 b db ⟨n, sz, false⟩ := hk2.blk hl1 hne
  go_wp2_with fail
  refine (done_any b db n sz x _ hl2).mono ?_; rintro e w3 ⟨rfl, hl3, hk3⟩
  have hd3 : IsRf w3 db d2 := hk3.blk hd2 (Ne.symm hne)
  have hk4 := (hk1.trans (hk2.right b)).trans (hk3.left db)
  by_cases hx0 : x = 0
  · subst hx0
    rw [if_pos rfl] at hadd
    have hq : Q = (⟨n + rs.length, sz + F.size, false⟩, d2, 0) := hadd
    clear hadd
    have cb1 : w3.cell? ⟨b, 1, none⟩ = some (.int .i64 n) := hl3.cell 1
    have fb1 : w3.frozen? ⟨b, 1, none⟩ = false := hl3.free 1
    have cb2 : w3.cell? ⟨b, 2, none⟩ = some (.int .i64 sz) := hl3.cell 2
    have fb2 : w3.frozen? ⟨b, 2, none⟩ = false := hl3.free 2
    go_wp2_with fail
    go_ret
    rw [hq]
    exact ⟨rfl, (IsRg.setN (show IsRg w3 b db ⟨n, sz, false⟩ from hl3) _).setSize _, Blk.setOther (Blk.setOther hd3 (Ne.symm hne) _) (Ne.symm hne) _, hk4.trans ((((Kept.refl b w3).set 1 _).set 2 _).left db)⟩
  · rw [if_neg hx0] at hadd
    have hq : Q = (⟨n, sz, x == 14⟩, d2, x) := hadd
    clear hadd
    have hxb : (x == 0) = false := by simpa using hx0
    go_wp2_with fail
    go_ret
    rw [hq]
    exact ⟨rfl, hl3, hd3, hk4⟩

set_option maxRecDepth 100000 in
set_option maxHeartbeats 1000000 in
theorem rbegin_any (b db : Nat) (l : Lg) (d : Dk) (ao : Option Addr) (cap : Nat) (rs : List ByteArray) (w : World) (hl : IsRg w b db l) (hd : IsRf w db d) (hne : b ≠ db) (hlen : rs.length ≤ 1000) (hsz : ∀ r ∈ rs, r.size ≤ 1000000)
    (hf : d.Fit) (hat : SlAt w ao (rs.map Value.string)) :
    Calls Tryd.prog 31 #[.pointer (some ⟨b, 0, none⟩), .slice ao rs.length cap] w fun e w' =>
      e = .returned (.int .i64 (l.begin d rs).2.2) ∧ IsRg w' b db (l.begin d rs).1 ∧ IsRf w' db (l.begin d rs).2.1 ∧ Kept2 b db w w' := by
  obtain ⟨n, sz, br⟩ := l
  have c3 : w.cell? ⟨b, 3, none⟩ = some (.bool br) := hl.cell 3
  cases br
  rotate_left
  · rw [show (Lg.mk n sz true).begin d rs = (⟨n, sz, true⟩, d, 13) from rfl]
    go_enter Tryd.func31, Tryd.ntmps31
    go_wp2_with fail
    go_ret
    exact ⟨rfl, hl, hd, Kept2.refl _ _ _⟩
  have HF := Lib.hid (rframes_any ao cap rs hlen hsz w hat)
  have hfs := framesB_size rs
  have hEc := framesE_cases rs
  have hadd : (Lg.mk n sz false).begin d rs = (((Lg.mk n sz false).beginP d rs).1.done ((Lg.mk n sz false).beginP d rs).2.2, ((Lg.mk n sz false).beginP d rs).2) := rfl
  unfold Lg.beginP at hadd
  obtain ⟨Q, hQ⟩ := nm ((Lg.mk n sz false).begin d rs)
  rw [← hQ.out] at hadd ⊢
  obtain ⟨F, hFF⟩ := nm (framesB rs)
  obtain ⟨E, hEE⟩ := nm (framesE rs)
  rw [← hFF.out] at hadd hfs HF
  rw [← hEE.out] at hadd hEc HF
  clear hat hsz hQ hFF hEE
  obtain ⟨hs1, hst, hle⟩ := hf
  have hbl := hl.lt
  have hdl := hd.lt
  rcases hEc with rfl | rfl
  rotate_left
  · rw [if_pos (by decide)] at hadd
    have hq : Q = (⟨n, sz, false⟩, d, 11) := hadd
    clear hadd
    go_enter Tryd.func31, Tryd.ntmps31
    go_wp2_with fail
    refine HF.out.mono ?_; rintro e w1 ⟨rfl, hB⟩
    go_wp2_with fail
    go_ret
    rw [hq]
    exact ⟨rfl, Blk.below hl hB hbl, Blk.below hd hB hdl, Kept2.ofBelow hB⟩
  rw [if_neg (by simp)] at hadd
  obtain ⟨⟨d2, x⟩, hx⟩ := nm (d.swap F)
  rw [← hx.out] at hadd
  simp only at hadd
  go_enter Tryd.func31, Tryd.ntmps31
  go_wp2_with fail
  refine HF.out.mono ?_; rintro e w1 ⟨rfl, hB⟩
  have hl1 : IsRg w1 b db ⟨n, sz, false⟩ := Blk.below hl hB hbl
  have hd1 := Blk.below hd hB hdl
  have hk1 : Kept2 b db w w1 := Kept2.ofBelow hB
  have c0 : w1.cell? ⟨b, 0, none⟩ = some (.pointer (some ⟨db, 0, none⟩)) := hl1.cell 0
  go_wp2_with fail
  refine (rswap_any db d F _ hd1 (by omega) hle).mono ?_; rintro e w2 ⟨rfl, hd2, hk2⟩
  rw [← hx.out] at hd2 ⊢
  clear hx
  simp only at hd2 ⊢
  have hl2 : IsRg w2 b db ⟨n, sz, false⟩ := hk2.blk hl1 hne
  go_wp2_with fail
  refine (done_any b db n sz x _ hl2).mono ?_; rintro e w3 ⟨rfl, hl3, hk3⟩
  have hd3 : IsRf w3 db d2 := hk3.blk hd2 (Ne.symm hne)
  have hk4 := (hk1.trans (hk2.right b)).trans (hk3.left db)
  by_cases hx0 : x = 0
  · subst hx0
    rw [if_pos rfl] at hadd
    have hq : Q = (⟨rs.length, F.size, false⟩, d2, 0) := hadd
    clear hadd
    have cb1 : w3.cell? ⟨b, 1, none⟩ = some (.int .i64 n) := hl3.cell 1
    have fb1 : w3.frozen? ⟨b, 1, none⟩ = false := hl3.free 1
    have cb2 : w3.cell? ⟨b, 2, none⟩ = some (.int .i64 sz) := hl3.cell 2
    have fb2 : w3.frozen? ⟨b, 2, none⟩ = false := hl3.free 2
    go_wp2_with fail
    go_ret
    rw [hq]
    exact ⟨rfl, (IsRg.setN (show IsRg w3 b db ⟨n, sz, false⟩ from hl3) _).setSize _, Blk.setOther (Blk.setOther hd3 (Ne.symm hne) _) (Ne.symm hne) _, hk4.trans ((((Kept.refl b w3).set 1 _).set 2 _).left db)⟩
  · rw [if_neg hx0] at hadd
    have hq : Q = (⟨n, sz, x == 14⟩, d2, x) := hadd
    clear hadd
    have hxb : (x == 0) = false := by simpa using hx0
    go_wp2_with fail
    go_ret
    rw [hq]
    exact ⟨rfl, hl3, hd3, hk4⟩

set_option maxRecDepth 100000 in
set_option maxHeartbeats 1000000 in
theorem rlsync_any (b db : Nat) (l : Lg) (d : Dk) (w : World) (hl : IsRg w b db l) (hd : IsRf w db d) (hne : b ≠ db) (hf : d.Fit) :
    Calls Tryd.prog 29 #[.pointer (some ⟨b, 0, none⟩)] w fun e w' =>
      e = .returned (.int .i64 (l.sync d).2.2) ∧ IsRg w' b db (l.sync d).1 ∧ IsRf w' db (l.sync d).2.1 ∧ Kept2 b db w w' := by
  obtain ⟨n, sz, br⟩ := l
  have c3 : w.cell? ⟨b, 3, none⟩ = some (.bool br) := hl.cell 3
  have c0 : w.cell? ⟨b, 0, none⟩ = some (.pointer (some ⟨db, 0, none⟩)) := hl.cell 0
  obtain ⟨hs1, hst, hle⟩ := hf
  cases br
  · rw [show (Lg.mk n sz false).sync d = (⟨n, sz, d.sync.2 == 14⟩, d.sync) from rfl]
    go_enter Tryd.func29, Tryd.ntmps29
    go_wp2_with fail
    refine (rsync_any db d _ hd (by omega) (by omega) hle).mono ?_; rintro e w2 ⟨rfl, hd2, hk2⟩
    have hl2 : IsRg w2 b db ⟨n, sz, false⟩ := hk2.blk hl hne
    go_wp2_with fail
    refine (done_any b db n sz _ _ hl2).mono ?_; rintro e w3 ⟨rfl, hl3, hk3⟩
    go_wp2_with fail
    go_ret
    exact ⟨rfl, hl3, hk3.blk hd2 (Ne.symm hne), (hk2.right b).trans (hk3.left db)⟩
  · rw [show (Lg.mk n sz true).sync d = (⟨n, sz, true⟩, d, 13) from rfl]
    go_enter Tryd.func29, Tryd.ntmps29
    go_wp2_with fail
    go_ret
    exact ⟨rfl, hl, hd, Kept2.refl _ _ _⟩
end Go.Proofs.YtkglfnjgneofdaaDoor
