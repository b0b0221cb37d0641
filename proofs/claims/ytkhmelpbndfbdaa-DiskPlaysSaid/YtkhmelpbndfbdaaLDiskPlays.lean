/- DiskPlays: for every room and every row of calls the law returns true. -/
import Derived.Test.YtkhmelpbndfbdaaDiskAwake
import Derived.Test.YtkhmelpbndfbdaaDiskR
import Derived.Test.YtkhmelpbndfbdaaBytes
import Derived.Test.YtkhmelpbndfbdaaRows3
import Derived.Deep.CutBlock
namespace Go.Proofs.Ytkhmelpbndfbdaa
open Go.RowKit

/-- What a disk is behind k calls. -/
structure Dk.Ok (d : Dk) (room : Int) (k : Nat) : Prop where
  room : d.room = room
  size : d.safe.size + d.tail.size ≤ 20 * k
  steps : 0 ≤ d.steps ∧ d.steps ≤ k
  left : 0 ≤ d.left ∧ d.left ≤ 9223372036854775807

section
variable {d : Dk} {r : Int} {k : Nat}
theorem Dk.Ok.step (h : d.Ok r k) (n : Int) (f g : Dk → Dk) (hf : ∀ d1 : Dk, d1.Ok r (k + 1) → d1.safe = d.safe → d1.tail = d.tail → (f d1).Ok r (k + 1)) (hg : ∀ d1 : Dk, d1.Ok r (k + 1) → d1.safe = d.safe → d1.tail = d.tail → (g d1).Ok r (k + 1)) : (d.step n f g).1.Ok r (k + 1) := by
  obtain ⟨h1, h2, h3, h4⟩ := h
  unfold Dk.step
  split
  · split
    · exact ⟨h1, by simp only; omega, by simp only; omega, h4⟩
    · split
      · split
        · exact hg _ ⟨h1, by simp only; omega, by simp only; omega, h4⟩ rfl rfl
        · exact hf _ ⟨h1, by simp only; omega, by simp only; omega, by simp only; omega⟩ rfl rfl
      · exact hf _ ⟨h1, by simp only; omega, by simp only; omega, h4⟩ rfl rfl
  · exact ⟨h1, by simp only; omega, by simp only; omega, h4⟩
theorem Dk.Ok.append (h : d.Ok r k) (s : ByteArray) (hs : s.size ≤ 20) : (d.append s).1.Ok r (k + 1) := by
  have hz := h.size
  refine h.step _ _ _ ?_ ?_ <;>
  · intro d1 h1 e1 e2
    exact ⟨h1.room, by simp only [ByteArray.size_append]; rw [e1, e2]; omega, h1.steps, h1.left⟩
theorem Dk.Ok.sync (h : d.Ok r k) : d.sync.1.Ok r (k + 1) := by
  have hz := h.size
  refine h.step _ _ _ ?_ ?_
  · intro d1 h1 e1 e2
    exact ⟨h1.room, by simp only [ByteArray.size_append, nil_size]; rw [e1, e2]; omega, h1.steps, h1.left⟩
  · intro d1 h1 e1 e2
    exact h1
theorem Dk.Ok.swap (h : d.Ok r k) (s : ByteArray) (hs : s.size ≤ 20) : (d.swap s).1.Ok r (k + 1) := by
  have hz := h.size
  refine h.step _ _ _ ?_ ?_
  · intro d1 h1 e1 e2
    exact ⟨h1.room, by simp only [nil_size]; omega, h1.steps, h1.left⟩
  · intro d1 h1 e1 e2
    exact h1
theorem Dk.Ok.arm (h : d.Ok r k) (n : Int) (hn : n ≤ 9223372036854775807) : (d.arm n).Ok r (k + 1) := by
  obtain ⟨h1, h2, h3, h4⟩ := h
  refine ⟨h1, by simp only [Dk.arm]; omega, by simp only [Dk.arm]; omega, ?_⟩
  simp only [Dk.arm]
  split <;> omega
theorem Dk.Ok.again (h : d.Ok r k) (s : ByteArray) (hs : s.size ≤ 20 * k) : (d.again s).Ok r (k + 1) := by
  obtain ⟨h1, h2, h3, h4⟩ := h
  unfold Dk.again
  split
  · exact ⟨h1, by simp only [nil_size]; omega, by simp only; omega, h4⟩
  · exact ⟨h1, by omega, by omega, h4⟩
theorem Dk.Ok.crash (h : d.Ok r k) (n : Int) : (d.crash n).Ok r (k + 1) := by
  have := h.size
  exact h.again _ (by simp only [ByteArray.size_append, ByteArray.size_extract]; omega)
end

theorem dnew0 (n : Int) (w : World) (h : n < 1 ∨ 67108864 < n) :
    Calls Try.prog 10 #[.int .i64 n] w fun e w' => e = .returned (.pointer none) ∧ w = w' := by
  rcases h with h | h
  · go_enter Try.func10, Try.ntmps10
    go_wp2
    go_ret
    exact ⟨rfl, rfl⟩
  · go_enter Try.func10, Try.ntmps10
    go_wp2
    go_ret
    exact ⟨rfl, rfl⟩

theorem rnew0 (n : Int) (w : World) (h : n < 1 ∨ 67108864 < n) :
    Calls Try.prog 21 #[.int .i64 n] w fun e w' => e = .returned (.pointer none) ∧ w = w' := by
  rcases h with h | h
  · go_enter Try.func21, Try.ntmps21
    go_wp2
    go_ret
    exact ⟨rfl, rfl⟩
  · go_enter Try.func21, Try.ntmps21
    go_wp2
    go_ret
    exact ⟨rfl, rfl⟩

theorem rnew2_any (n : Int) (w : World) (h : 1 ≤ n) (h2 : n ≤ 67108864) :
    Calls Try.prog 21 #[.int .i64 n] w fun e w' => ∃ b, e = .returned (.pointer (some ⟨b, 0, none⟩)) ∧ w.heap.size ≤ b ∧ IsRf w' b (Dk.new n) ∧ Below w.heap.size w w' :=
  (rnew_any n w h h2).mono fun _ _ ⟨he, hw⟩ => ⟨w.heap.size, he, Nat.le_refl _, by rw [hw]; exact Blk.new _ _ _, by rw [hw]; exact bOld _⟩

theorem dsteps_any2 (b : Nat) (d : Dk) (w : World) (hd : IsDk w b d) :
    Calls Try.prog 19 #[.pointer (some ⟨b, 0, none⟩)] w fun e w' => e = .returned (.int .i64 d.steps) ∧ w' = w := (dsteps_any b d w hd).mono fun _ _ ⟨h, k⟩ => ⟨h, k.symm⟩
theorem don_any2 (b : Nat) (d : Dk) (w : World) (hd : IsDk w b d) :
    Calls Try.prog 12 #[.pointer (some ⟨b, 0, none⟩)] w fun e w' => e = .returned (.bool d.on) ∧ w' = w := (don_any b d w hd).mono fun _ _ ⟨h, k⟩ => ⟨h, k.symm⟩

/-- Both disks are the same one, in two blocks. -/
structure Both (w w' : World) (b c : Nat) (d : Dk) : Prop where
  ne : b ≠ c
  lb : w.heap.size ≤ b
  lc : w.heap.size ≤ c
  dk : IsDk w' b d
  rf : IsRf w' c d
  old : Below w.heap.size w w'

theorem Both.first {w w1 w2 : World} {b c : Nat} {d d1 : Dk} (h : Both w w1 b c d) (h1 : IsDk w2 b d1) (hk : Kept b w1 w2) : IsRf w2 c d ∧ IsDk w2 b d1 ∧ Below w.heap.size w w2 :=
  ⟨hk.blk h.rf (Ne.symm h.ne), h1, bKept h.old hk h.lb⟩
theorem Both.second {w w1 w2 w3 : World} {b c : Nat} {d d1 : Dk} (h : Both w w1 b c d) (h1 : IsDk w2 b d1) (hB : Below w.heap.size w w2) (h2 : IsRf w3 c d1) (hk : Kept c w2 w3) : Both w w3 b c d1 :=
  ⟨h.ne, h.lb, h.lc, hk.blk h1 h.ne, h2, bKept hB hk h.lc⟩
theorem Both.alloc {w w1 : World} {b c : Nat} {d : Dk} (h : Both w w1 b c d) (o : Obj) : Both w (w1.alloc o) b c d :=
  ⟨h.ne, h.lb, h.lc, h.dk.alloc o, h.rf.alloc o, h.old.alloc h.old.size o⟩
theorem Both.drewN {w w1 : World} {b c : Nat} {d : Dk} (h : Both w w1 b c d) (n : Nat) : Both w (w1.drewN n) b c d :=
  ⟨h.ne, h.lb, h.lc, h.dk.drewN n, h.rf.drewN n, below_drewN h.old n⟩

set_option maxRecDepth 100000 in
set_option maxHeartbeats 8000000 in
theorem diskPlays_walk (room : Int) (ao : Option Addr) (len cap : Nat) (A B : Nat → Int) (C : Nat → ByteArray) (w : World) (hat : Rows3 w ao len A B C) :
    Calls Try.prog 7 #[.int .i64 room, .slice ao len cap] w fun e w' => e = .returned (.bool true) ∧ Below w.heap.size w w' := by
  have HAT := Lib.hid hat
  clear hat
  go_enter Try.func7, Try.ntmps7
  go_wp2_with fail
  refine (awake_any _).mono ?_; rintro e w0 ⟨rfl, hB⟩
  by_cases hr : 1 ≤ room ∧ room ≤ 67108864
  rotate_left
  · go_wp2_with fail
    refine (dnew0 _ _ (by omega)).mono ?_; rintro e w1 ⟨rfl, rfl⟩
    go_wp2_with fail
    refine (rnew0 _ _ (by omega)).mono ?_; rintro e w1 ⟨rfl, rfl⟩
    go_wp2_with fail
    go_ret
    exact ⟨rfl, hB⟩
  obtain ⟨hr1, hr2⟩ := hr
  go_wp2_with fail
  refine (dnew2_any _ _ hr1 hr2).mono ?_; rintro e w1 ⟨b, rfl, hb, hd, hB1⟩
  have hbl := hd.lt
  replace hb := Nat.le_trans hB.size hb
  replace hB := bNext hB hB1
  clear hB1
  go_wp2_with fail
  refine (rnew2_any _ _ hr1 hr2).mono ?_; rintro e w2 ⟨c, rfl, hc, hf, hB1⟩
  have hbo : Both w w2 b c (Dk.new room) := ⟨by omega, hb, Nat.le_trans hB.size hc, hd.below hB1 (by omega), hf, bNext hB hB1⟩
  have hok : (Dk.new room).Ok room 0 := ⟨rfl, by simp [Dk.new, nil_size], by simp [Dk.new], by simp [Dk.new]⟩
  clear hB1 hb hc hf hd hB hbl
  go_wp2_with fail
  go_loopw [8] (fun i wr => ∃ (k : Nat) (d : Dk), k ≤ 60 ∧ k ≤ len ∧ i = .int .i64 (k : Int) ∧ d.Ok room k ∧ Both w wr b c d) (fun i _ => 60 - (intOf i).toNat)
  case atStart => exact ⟨0, _, by omega, by omega, rfl, hok, hbo⟩
  case round =>
    clear hok hbo
    obtain ⟨k, d, hk1, hk2, rfl, hok, hbo⟩ := hrel
    by_cases hlt : k < len ∧ k < 60
    rotate_left
    · go_wp2_with fail
      all_goals
        go_ret
        exact ⟨rfl, hbo.old⟩
    obtain ⟨hlt1, hlt2⟩ := hlt
    obtain ⟨bs, off, rfl, hbs, cA, cB, cC, hBk⟩ := HAT.out k hlt1
    obtain ⟨a, ha⟩ := nm (A k)
    obtain ⟨n, hn⟩ := nm (B k)
    obtain ⟨s, hs⟩ := nm (C k)
    rw [← ha.out] at cA
    rw [← hn.out] at cB hBk
    rw [← hs.out] at cC
    have cA1 : wr.cell? ⟨bs, off + k * 3, none⟩ = some (.int .i64 a) := (hbo.old.cell (p := ⟨bs, _, none⟩) hbs).trans cA
    have cB1 : wr.cell? ⟨bs, off + k * 3 + 1, none⟩ = some (.int .i64 n) := (hbo.old.cell (p := ⟨bs, _, none⟩) hbs).trans cB
    have cC1 : wr.cell? ⟨bs, off + k * 3 + 2, none⟩ = some (.string s) := (hbo.old.cell (p := ⟨bs, _, none⟩) hbs).trans cC
    have hbl := hbo.dk.lt
    have hbo := hbo.alloc (.cells #[.int .i64 a, .int .i64 n, .string s] 45)
    have po : Blk (wr.alloc (.cells #[.int .i64 a, .int .i64 n, .string s] 45)) wr.heap.size #[.int .i64 a, .int .i64 n, .string s] 45 := Blk.new _ _ _
    have h10 := cutB_cases s 20
    have h10l := cutB_le s 20
    obtain ⟨s2, hs2⟩ := nm (cutB s 20)
    rw [← hs2.out] at h10 h10l
    go_upto_if 43 with fail
    go_cut [10] (fun s10 wx => s10 = .string s2 ∧ wr.alloc (.cells #[.int .i64 a, .int .i64 n, .string s] 45) = wx)
    case first =>
      rcases h10 with ⟨h, e⟩ | ⟨h, rfl⟩
      all_goals
        go_wp2_with fail
        go_meet
        exact ⟨rfl, rfl⟩
    obtain ⟨rfl, rfl⟩ := hcut
    clear h10 cA1 cB1 cC1 cA cB cC hbs
    obtain ⟨K, hK, hm⟩ := and_mask a 7 (by decide)
    have hm2 : bits BinOp.and IntKind.i64 a 7 = (K : Int) := hm
    clear hm
    go_upto_block 2 with fail
    go_cut [11] (fun s11 wx => s11 = .bool true ∧ ∃ d1 : Dk, d1.Ok room (k + 1) ∧ Both w wx b c d1)
    case first =>
      clear hm2
      have cn1 : (wr.alloc (.cells #[.int .i64 a, .int .i64 n, .string s] 45)).cell? ⟨wr.heap.size, 1, none⟩ = some (.int .i64 n) := po.cell 1
      have hne1 : wr.heap.size ≠ b := by omega
      have hz := hok.size
      have hst : 0 ≤ d.steps ∧ d.steps ≤ 4611686018427387904 := by have := hok.steps; omega
      have hle := hok.left
      have hro : 0 < d.room := by rw [hok.room]; omega
      have hK8 : K = 0 ∨ K = 1 ∨ K = 2 ∨ K = 3 ∨ K = 4 ∨ K = 5 ∨ K = 6 ∨ K = 7 := by omega
      rcases hK8 with rfl | rfl | rfl | rfl | rfl | rfl | rfl | rfl
      iterate 3
        · go_wp2_with fail
          refine (dappend_any b _ _ _ hbo.dk (by omega) hst hle).mono ?_; rintro e w2 ⟨rfl, h1, hk⟩
          obtain ⟨g1, g2, g3⟩ := hbo.first h1 hk
          go_wp2_with fail
          refine (rappend_any c _ _ _ g1 (by omega) hst hle).mono ?_; rintro e w3 ⟨rfl, h2, hk2⟩
          have hbo2 := hbo.second g2 g3 h2 hk2
          go_wp2_with fail
          go_meet
          exact ⟨by simp, _, hok.append s2 h10l, hbo2⟩
      · go_wp2_with fail
        refine (dsync_any b _ _ hbo.dk (by omega) hst hle).mono ?_; rintro e w2 ⟨rfl, h1, hk⟩
        obtain ⟨g1, g2, g3⟩ := hbo.first h1 hk
        go_wp2_with fail
        refine (rsync_any c _ _ g1 (by omega) hst hle).mono ?_; rintro e w3 ⟨rfl, h2, hk2⟩
        have hbo2 := hbo.second g2 g3 h2 hk2
        go_wp2_with fail
        go_meet
        exact ⟨by simp, _, hok.sync, hbo2⟩
      · go_wp2_with fail
        refine (dswap_any b _ _ _ hbo.dk hst hle).mono ?_; rintro e w2 ⟨rfl, h1, hk⟩
        obtain ⟨g1, g2, g3⟩ := hbo.first h1 hk
        go_wp2_with fail
        refine (rswap_any c _ _ _ g1 hst hle).mono ?_; rintro e w3 ⟨rfl, h2, hk2⟩
        have hbo2 := hbo.second g2 g3 h2 hk2
        go_wp2_with fail
        go_meet
        exact ⟨by simp, _, hok.swap s2 h10l, hbo2⟩
      · go_wp2_with fail
        refine (darm_any b _ _ _ hbo.dk).mono ?_; rintro e w2 ⟨rfl, h1, hk⟩
        obtain ⟨g1, g2, g3⟩ := hbo.first h1 hk
        have cn2 : w2.cell? ⟨wr.heap.size, 1, none⟩ = some (.int .i64 n) := (hk.blk po hne1).cell 1
        go_wp2_with fail
        refine (rarm_any c _ _ _ g1).mono ?_; rintro e w3 ⟨rfl, h2, hk2⟩
        have hbo2 := hbo.second g2 g3 h2 hk2
        go_wp2_with fail
        go_meet
        exact ⟨rfl, _, hok.arm n hBk, hbo2⟩
      · go_wp2_with fail
        refine (dcrash_any b _ _ _ hbo.dk (by omega)).mono ?_; rintro e w2 ⟨rfl, h1, hk⟩
        obtain ⟨g1, g2, g3⟩ := hbo.first h1 hk
        have cn2 : w2.cell? ⟨wr.heap.size, 1, none⟩ = some (.int .i64 n) := (hk.blk po hne1).cell 1
        go_wp2_with fail
        refine (rcrash_any c _ _ _ g1 hro (by omega)).mono ?_; rintro e w3 ⟨rfl, h2, hk2⟩
        have hbo2 := hbo.second g2 g3 h2 hk2
        go_wp2_with fail
        go_meet
        exact ⟨rfl, _, hok.crash n, hbo2⟩
      · obtain ⟨N, hN, hm⟩ := and_mask n 1 (by decide)
        have hm2 : bits BinOp.and IntKind.i64 n 1 = (N : Int) := hm
        clear hm
        have hN2 : N = 0 ∨ N = 1 := by omega
        rcases hN2 with rfl | rfl
        · go_wp2_with fail
          refine (dsync_any b _ _ hbo.dk (by omega) hst hle).mono ?_; rintro e w2 ⟨rfl, h1, hk⟩
          obtain ⟨g1, g2, g3⟩ := hbo.first h1 hk
          go_wp2_with fail
          refine (rsync_any c _ _ g1 (by omega) hst hle).mono ?_; rintro e w3 ⟨rfl, h2, hk2⟩
          have hbo2 := hbo.second g2 g3 h2 hk2
          go_wp2_with fail
          go_meet
          exact ⟨by simp, _, hok.sync, hbo2⟩
        · go_wp2_with fail
          refine (dwipe_any b _ _ hbo.dk).mono ?_; rintro e w2 ⟨rfl, h1, hk⟩
          obtain ⟨g1, g2, g3⟩ := hbo.first h1 hk
          go_wp2_with fail
          refine (rwipe_any c _ _ g1 hro).mono ?_; rintro e w3 ⟨rfl, h2, hk2⟩
          have hbo2 := hbo.second g2 g3 h2 hk2
          go_wp2_with fail
          go_meet
          exact ⟨rfl, _, hok.again _ (by simp [nil_size]), hbo2⟩
    clear hok hbo po hm2
    obtain ⟨rfl, d1, hok, hbo⟩ := hcut
    have hz := hok.size
    have r0 : wc.cell? ⟨c, 0, none⟩ = some (.string d1.safe) := hbo.rf.cell 0
    have r1 : wc.cell? ⟨c, 1, none⟩ = some (.string d1.tail) := hbo.rf.cell 1
    have r4 : wc.cell? ⟨c, 4, none⟩ = some (.int .i64 d1.steps) := hbo.rf.cell 4
    have r5 : wc.cell? ⟨c, 5, none⟩ = some (.bool d1.on) := hbo.rf.cell 5
    go_upto_region 33 with fail
    go_quiet ((first
      | (go_at_call 17; exact Calls.quiet_of (dbytes_any b _ _ hbo.dk (by omega)))
      | (go_at_call 15; exact Calls.quiet_of_same (dsafe_any2 b _ _ hbo.dk))
      | (go_at_call 19; exact Calls.quiet_of_same (dsteps_any2 b _ _ hbo.dk))
      | (go_at_call 12; exact Calls.quiet_of_same (don_any2 b _ _ hbo.dk))))
    have hbo := hbo.drewN nq
    go_wp2_with fail
    go_roundw
    case rel => exact ⟨k + 1, d1, by omega, by omega, by go_num, hok, hbo⟩
    case measure => simp [intOf]; omega

namespace LDiskPlays
open Go.ChangeShapes Go.WideShapes Go.ChangeAt
open Go.ChangeMaps (open_string shut_string)

theorem contract (H : Type) (enc : TypeId × Value → H) (W : World) (base : Nat) (args : Array Value) (ds gs : List (DataW H)) (before : List MemPlace)
    (hval : ∀ (j : Nat) t v, Try.f7.params[j]? = some t → args[j]? = some v → Value.okWide Try.prog W .any base t v)
    (hW : DataW.Whole enc Try.prog Try.f7.params.toList Rows.diskPlaysSpec.vars false W args.toList ds gs before)
    (_hsz : (DataW.weightsEach Try.prog (Try.f7.params.toList ++ (OpenSpec.ofChange Rows.diskPlaysSpec).bare.plain.varTypes Try.prog) (ds ++ gs)).all (fun x => decide (x ≤ reachBytes)) = true) :
    Calls Try.prog 7 args W fun e W' => ∃ v, e = .returned v ∧ Rows.diskPlaysSpec.post enc Try.prog Try.f7 false true false false W args v W' := by
  have hW' := hW
  obtain ⟨p, q, hA0, hV, rfl, hfz, hnd⟩ := hW
  have hA : DataW.TrodAll enc Try.prog W 0 (fun _ => true) true Try.f7.params.toList args.toList ds p := hA0
  rw [Try.params7] at hA hval
  obtain ⟨v0, vs0, d0, ds0, p0, q0, hargs, rfl, rfl, h0, r0⟩ := trodAll_cons hA
  obtain ⟨v1, vs1, d1, ds1, p1, q1, rfl, rfl, rfl, h1, r1⟩ := trodAll_cons r0
  obtain ⟨rfl, rfl, rfl⟩ := trodAll_nil r1
  obtain rfl : args = #[v0, v1] := by cases args; simp_all
  obtain ⟨rfl, rfl⟩ := trodVars_none hV
  obtain ⟨x0, rfl, rfl, rfl, k0⟩ := open_int Try.underlying3 (hval 0 3 v0 rfl rfl) h0
  obtain ⟨ao1, len1, cap1, A1, B1, C1, rfl, _, _, hat1⟩ := open_rows3 Try.underlying41 Try.underlying45 (show Try.prog.cellsOf 45 = 3 by kernel_rfl) ⟨rfl, rfl⟩ ⟨rfl, rfl⟩ ⟨rfl, rfl⟩ Try.underlying3 Try.underlying9 (show Try.prog.cellsOf 3 = 1 by kernel_rfl) (show Try.prog.cellsOf 9 = 1 by kernel_rfl) h1 (okWide_slice Try.underlying41 (hval 1 41 v1 rfl rfl))
  clear hA0
  refine (diskPlays_walk x0 ao1 len1 cap1 A1 B1 C1 W hat1).mono fun e W' ⟨he, hb⟩ => ?_
  subst he
  exact ⟨_, rfl, law_post laidOut Try.underlying4 rfl (by kernel_rfl) rfl rfl rfl rfl hW' hb⟩

theorem reads (os : Os) {H : Type} (enc : TypeId × Value → H) : ∃ places, DataW.whole enc Try.prog ((World.holding Try.prog os ⟨#[], #[], []⟩).forCall (fun _ _ => 0) ⟨#[], #[.int .i64 0, .slice none 0 0], []⟩).memory Try.f7.params.toList Rows.diskPlaysSpec.vars false (#[.int .i64 0, .slice none 0 0] : Array Value).toList 8 = some ([.lit (.int .i64 0), .nil], [], places) :=
  ⟨[], by kernel_rfl⟩
theorem laid_met (os : Os) : laidMet Try.prog Rows.diskPlaysRow.laid ((World.holding Try.prog os ⟨#[], #[], []⟩).forCall (fun _ _ => 0) ⟨#[], #[.int .i64 0, .slice none 0 0], []⟩).memory :=
  laidMet_of_run' 8 (by kernel_rfl) (by kernel_rfl)

set_option maxRecDepth 100000 in
theorem lifted (os : Os) (started : os.Started) (H : Type) (enc : TypeId × Value → H) (F : Stop.Interp) :
    ReturnsInHanded {} Try.checked os 7 .any ((OpenSpec.ofChange Rows.diskPlaysSpec).preRow enc Try.prog Try.f7 Rows.diskPlaysRow.domain false Rows.diskPlaysRow.laid) (((OpenSpec.ofChange Rows.diskPlaysSpec).at F).post enc Try.prog Try.f7 false true false false) := by
  obtain ⟨places, hx⟩ := reads os enc
  refine returnsInHanded_of_row (C := Try.checked) (s := OpenSpec.ofChange Rows.diskPlaysSpec) own started (by kernel_rfl) Try.func7
    (witness_row_at (enc := enc) (C := Try.checked) false (World.holding Try.prog os ⟨#[], #[], []⟩) #[.int .i64 0, .slice none 0 0] rfl (by kernel_rfl) (by kernel_rfl) (by kernel_rfl)
      (OpenSpec.preRow_of_cond 8 hx (by kernel_rfl) (fun k hk => by cases hk) (by kernel_rfl) (laid_met os))) ?_
  intro W base args ds gs before hval hW _ _ hsz hL _ _
  exact contract H enc W base args ds gs before hval hW hsz

theorem said : Rows.DiskPlaysSaid :=
  OpenClaim.holds_of_cond 7 Try.f7 rfl rfl rfl rfl rfl rfl rfl ⟨rfl, rfl, rfl, rfl, rfl⟩ rfl rfl rfl rfl rfl (by kernel_rfl) Try.func7 (by kernel_rfl)
    (of_decide_eq_true (by kernel_rfl)) (by unfold Func.isWrapper; first | (rw [if_pos (by decide +kernel)]; kernel_rfl) | (rw [if_neg (by decide +kernel)]; exact ⟨rfl, rfl⟩))
    (fun os started H enc _ F => by rw [OpenClaim.pre_eq_preRow]; exact lifted os started H enc F)
end LDiskPlays
end Go.Proofs.Ytkhmelpbndfbdaa

