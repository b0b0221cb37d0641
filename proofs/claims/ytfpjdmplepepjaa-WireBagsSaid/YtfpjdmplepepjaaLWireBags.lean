/- WireBags: for any messages and any part the law returns true. -/
import Derived.Test.YtfpjdmplepepjaaB5
import Derived.Test.YtfpjdmplepepjaaB6
import Derived.Test.YtfpjdmplepepjaaB1
import Derived.Outline
import Derived.Deep.CutBlock
import Derived.Deep.DeepCutAuto
namespace Go.Proofs.Ytfpjdmplepepjaa
open Go.RowKit

theorem and_mod (x : Int) (k : Nat) (hk : k ≤ 62) : bits .and .i64 x (((2 ^ k - 1 : Nat)) : Int) = x % (2 ^ k : Nat) := by
  have hp : (2 : Nat) ^ k ≤ 2 ^ 62 := Nat.pow_le_pow_right (by decide) hk
  have hpos : 0 < (2 : Nat) ^ k := Nat.pos_of_ne_zero (by simp)
  have h2 : (BitVec.ofInt 64 ((2 ^ k - 1 : Nat) : Int)).toNat = 2 ^ k - 1 := by
    rw [BitVec.ofInt_natCast, BitVec.toNat_ofNat]; exact Nat.mod_eq_of_lt (by omega)
  show IntKind.i64.wrap ((BitVec.ofInt 64 x &&& BitVec.ofInt 64 ((2 ^ k - 1 : Nat) : Int)).toNat : Int) = _
  rw [BitVec.toNat_and, h2, Nat.and_two_pow_sub_one_eq_mod, BitVec.toNat_ofInt]
  have hdvd : ((2 ^ k : Nat) : Int) ∣ ((2 ^ 64 : Nat) : Int) := Int.natCast_dvd_natCast.2 (Nat.pow_dvd_pow 2 (by omega))
  have e : (((x % ((2 ^ 64 : Nat) : Int)).toNat % 2 ^ k : Nat) : Int) = x % ((2 ^ k : Nat) : Int) := by
    rw [Int.natCast_emod, Int.toNat_of_nonneg (Int.emod_nonneg _ (by decide)), Int.emod_emod_of_dvd _ hdvd]
  rw [e, IntKind.wrap_i64]
  have h3 := Int.emod_nonneg x (show ((2 ^ k : Nat) : Int) ≠ 0 by omega)
  have h4 := Int.emod_lt_of_pos x (show (0 : Int) < ((2 ^ k : Nat) : Int) by omega)
  omega
section
open Go.ChangeShapes Go.WideShapes Go.ChangeAt
set_option maxRecDepth 100000 in
/-- Messages, as they came in. -/
theorem open_msgs {H : Type} {enc0 : TypeId × Value → H} {w : World} {base : Nat} {spare : Nat → Bool} {held : Bool} {r : Reach} {b0 : Nat} {v : Value} {d : DataW H} {ps : List MemPlace} (hv : Value.okWide Try.prog w r b0 22 v) (h : DataW.Trod enc0 Try.prog w base spare held 22 v d ps) :
    ∃ (am : Option Addr) (n k : Nat) (live : List Msg5), v = .slice am n k ∧ live.length = n ∧ n ≤ k ∧ k ≤ maxLen ∧ SlE eMsg 5 w am live := by
  obtain ⟨a, n, c, rfl⟩ := okWide_slice Try.underlying22 hv
  obtain ⟨fuel, hf⟩ := h
  have hf2 : DataW.trod enc0 Try.prog w base spare held fuel 22 [.slice a n c] = some (d, ps) := by simpa [Value.cells] using hf
  obtain ⟨am, nm, km, live, e, m1, m2, m3, m4⟩ := open_cellE (enc := eMsg) Try.underlying22 (show Try.prog.cellsOf 48 = 5 by kernel_rfl) (by decide) in_msg hf2
  cases e
  exact ⟨_, _, _, live, rfl, m1, m2, m3, m4⟩
end

/-- Box x holds a bag that may be. -/
structure BSt (W : World) (x k : Nat) (am ab ac : Option Addr) (nl kl nb kb nc kc : Nat) (live : List Msg5) (bs cl : List Dot2) (wr : World) : Prop where
  bx : Blk wr x #[.slice am nl kl, .slice ab nb kb, .slice ac nc kc] 27
  below : Below W.heap.size W wr
  l0 : live.length = nl
  l1 : bs.length = nb
  l2 : cl.length = nc
  small : nl ≤ k ∧ nb ≤ 7 * k ∧ nc ≤ k
  no : (am = none → kl = 0) ∧ (ab = none → kb = 0) ∧ (ac = none → kc = 0)
  s0 : SlE eMsg 5 wr am live
  s1 : SlP wr ab bs
  s2 : SlP wr ac cl
  bag : BagP live bs cl
  txt : ∀ m ∈ live, m.queue.size ≤ 60 ∧ m.body.size ≤ 60
section
variable {W : World} {x k : Nat} {am ab ac : Option Addr} {nl kl nb kb nc kc : Nat} {live : List Msg5} {bs cl : List Dot2} {wr wn : World}
theorem BSt.grow (h : BSt W x k am ab ac nl kl nb kb nc kc live bs cl wr) (hb : Below wr.heap.size wr wn) : BSt W x k am ab ac nl kl nb kb nc kc live bs cl wn :=
  ⟨h.bx.below hb h.bx.lt, bNext h.below hb, h.l0, h.l1, h.l2, h.small, h.no, h.s0.below hb, h.s1.below hb, h.s2.below hb, h.bag, h.txt⟩
theorem BSt.succ (h : BSt W x k am ab ac nl kl nb kb nc kc live bs cl wr) : BSt W x (k + 1) am ab ac nl kl nb kb nc kc live bs cl wr :=
  ⟨h.bx, h.below, h.l0, h.l1, h.l2, by have := h.small; omega, h.no, h.s0, h.s1, h.s2, h.bag, h.txt⟩
theorem Chk0 {α : Type} {g : α → Prop} {r : α → α → Prop} : Chk g r ([] : List α) 0 := fun _ _ h => absurd h (Nat.not_lt_zero _)
theorem BSt.zero (h : Blk wr x #[.slice none 0 0, .slice none 0 0, .slice none 0 0] 27) (hb : Below W.heap.size W wr) : BSt W x 0 none none none 0 0 0 0 0 0 [] [] [] wr :=
  ⟨h, hb, rfl, rfl, rfl, by omega, ⟨fun _ => rfl, fun _ => rfl, fun _ => rfl⟩, SlE.nil _ _ _ _, SlP.nil _ _, SlP.nil _ _, ⟨⟨by simp [Asc], by simp [Asc], Chk0, fun _ h => by cases h⟩, Chk0⟩, fun _ h => by cases h⟩
/-- A message more. -/
theorem BSt.put {m : Msg5} (h : BSt W x k am ab ac nl kl nb kb nc kc live bs cl wr) (hx : W.heap.size ≤ x) (hk : k ≤ 6) (hm : mayM m) (ht : m.queue.size ≤ 60 ∧ m.body.size ≤ 60) (hn : ¬ hasD bs cl (dotOf m)) {a8 a9 a10 : Option Addr} {n8 k8 n9 k9 n10 k10 : Nat}
    (hl : (putM live m).length = n8 ∧ (putB bs cl (dotOf m)).length = n9 ∧ (putC bs cl (dotOf m)).length = n10) (hno : (a8 = none → k8 = 0) ∧ (a9 = none → k9 = 0) ∧ (a10 = none → k10 = 0))
    (hs : SlE eMsg 5 wr a8 (putM live m) ∧ SlP wr a9 (putB bs cl (dotOf m)) ∧ SlP wr a10 (putC bs cl (dotOf m))) (hat : (∀ a, a8 = some a → x < a.block) ∧ (∀ a, a9 = some a → x < a.block) ∧ (∀ a, a10 = some a → x < a.block))
    {wz : World} (hz : wz = ((wr.setCell ⟨x, 0, none⟩ (.slice a8 n8 k8)).setCell ⟨x, 1, none⟩ (.slice a9 n9 k9)).setCell ⟨x, 2, none⟩ (.slice a10 n10 k10)) :
    BSt W x (k + 1) a8 a9 a10 n8 k8 n9 k9 n10 k10 (putM live m) (putB bs cl (dotOf m)) (putC bs cl (dotOf m)) wz := by
  have hT : Tri x x x wr wz := by rw [hz]; exact (((Tri.refl x x x wr).set (p := ⟨x, 0, none⟩) (.inl rfl) _).set (p := ⟨x, 1, none⟩) (.inl rfl) _).set (p := ⟨x, 2, none⟩) (.inl rfl) _
  obtain ⟨s1, s2, s3⟩ := h.small
  obtain ⟨p1, p2, p3⟩ := put_lens h.bag hn
  have q0 := h.l0
  have q1 := h.l1
  have q2 := h.l2
  refine ⟨by rw [hz]; exact ((h.bx.set 0 _).set 1 _).set 2 _, by rw [hz]; exact ((h.below.setCell (p := ⟨x, 0, none⟩) hx _).setCell (p := ⟨x, 1, none⟩) hx _).setCell (p := ⟨x, 2, none⟩) hx _, hl.1, hl.2.1, hl.2.2, by omega, hno, ?_, ?_, ?_, put_bag h.bag hm hn, ?_⟩
  · exact hs.1.tri (fun a ha => by have := hat.1 a ha; exact ⟨by omega, by omega, by omega⟩) hT
  · exact hs.2.1.tri (fun a ha => by have := hat.2.1 a ha; exact ⟨by omega, by omega, by omega⟩) hT
  · exact hs.2.2.tri (fun a ha => by have := hat.2.2 a ha; exact ⟨by omega, by omega, by omega⟩) hT
  · intro y hy
    rcases List.mem_append.1 (sortM_mem hy) with h1 | h1
    · exact h.txt y h1
    · obtain rfl := List.mem_singleton.1 h1
      exact ht
end
theorem may_bag {P : Int} {live : List Msg5} {bs cl : List Dot2} (h0 : 0 ≤ P) (h1 : P ≤ 15) (hb : BagP live bs cl) : WL.May (WL.mk 1 3 0 P 0 0 0 0 0 ⟨#[]⟩ live bs cl [] []) :=
  ⟨show Btw 1 1 8 from ⟨by decide, by decide⟩, show Btw 3 1 1099511627776 from ⟨by decide, by decide⟩, show Btw 0 0 1099511627776 from ⟨by decide, by decide⟩, ⟨h0, h1⟩, show Btw 0 0 1 from ⟨by decide, by decide⟩, .inl rfl, show Btw 0 0 1099511627776 from ⟨by decide, by decide⟩, show Btw 0 0 1073741824 from ⟨by decide, by decide⟩, show (⟨#[]⟩ : ByteArray).size ≤ 8000 by decide, hb, ⟨show ([] : List Tag2).length ≤ 100 by decide, Chk0⟩, ⟨show ([] : List Peer3).length ≤ 64 by decide, Chk0⟩⟩
theorem short_nine (s : ByteArray) (Q : ByteArray) (hQ : Hid (Q = ofL ((bl s).take 9))) (w : World) :
    Calls Try.prog 17 #[.string s, .int .i64 9] w fun e w' => e = .returned (.string Q) ∧ w = w' := by rw [hQ.out]; exact short_any s 9 w
theorem bags_bytes {m : WL} (h0 : m.mark.size ≤ 60) (h1 : m.live.length ≤ 6) (h2 : ∀ x ∈ m.live, x.queue.size ≤ 60 ∧ x.body.size ≤ 60) (h3 : m.bs.length ≤ 42) (h4 : m.cl.length ≤ 6) (h5 : m.tags.length ≤ 0) (h7 : m.view.length ≤ 0) (hm : m.May) : m.bytes.length ≤ 8000 := by
  have hu := hm.ups (by omega) (by omega) (by omega)
  have n1 := rowL_le (f := numZ) (m := 10) m.nums (by simp [WL.nums]) fun z hz => num_le (hu.nums z hz)
  have n2 := textL_le (s := m.mark) h0 (by decide)
  have n3 := rowL_le (f := dotL) (m := 20) m.bs (by omega) fun z hz => dotL_le (hu.bs z hz)
  have n4 := rowL_le (f := dotL) (m := 20) m.cl (by omega) fun z hz => dotL_le (hu.cl z hz)
  have n5 := rowL_le (f := msgL) (m := 170) m.live (by omega) fun z hz => by
    obtain ⟨u1, u2, u3, u4, u5⟩ := hu.live z hz
    obtain ⟨s1, s2⟩ := h2 z hz
    have g1 := dotL_le (x := (z.node, z.n)) ⟨u1, u2⟩
    have g2 := textL_le s1 (by decide)
    have g3 := textL_le s2 (by decide)
    have g4 := num_le u5
    simp only [msgL, List.length_append]; omega
  have n6 := rowL_le (f := tagL) (m := 80) m.tags (by omega) fun z hz => by have := List.length_pos_of_mem hz; omega
  have n7 := rowL_le (f := peerL) (m := 30) m.view (by omega) fun z hz => by have := List.length_pos_of_mem hz; omega
  have e : m.nums.length = 9 := rfl
  rw [e] at n1
  have e2 : m.bytes.length = (rowL numZ m.nums).length + ((textL (bl m.mark)).length + ((((rowL dotL m.bs).length + (rowL dotL m.cl).length) + (rowL msgL m.live).length) + ((rowL tagL m.tags).length + (rowL peerL m.view).length))) := by
    simp only [WL.bytes, bagL, ctxL, List.length_append]; rfl
  omega

set_option maxRecDepth 100000 in
set_option maxHeartbeats 16000000 in
theorem wireBags_walk (al : Option Addr) (nn kn : Nat) (LL : List Msg5) (hl : Hid (LL.length = nn)) (part : Int) (W : World) (g0 : SlE eMsg 5 W al LL) :
    Calls Try.prog 6 #[.slice al nn kn, .int .i64 part] W fun e W' => e = .returned (.bool true) ∧ Below W.heap.size W W' := by
  have G0 := Lib.hid g0
  clear g0
  obtain ⟨P, hP⟩ := nm (bits .and .i64 part 15)
  have bP : bits .and .i64 part 15 = part % 16 := and_mod part 4 (by decide)
  obtain ⟨lP, uP⟩ : 0 ≤ P ∧ P < 16 := by rw [hP.out, bP]; omega
  clear bP
  have eP : bits .and .i64 part 15 = P := hP.out.symm
  have HEP := Lib.hid eP
  clear eP
  go_enter Try.func6, Try.ntmps6
  go_wp2_with fail
  refine (awake_any _).mono ?_; rintro e w1 ⟨rfl, hB1⟩
  obtain ⟨x, hx⟩ := nm w1.heap.size
  obtain ⟨w2, hw2⟩ := nm (w1.alloc (.cells #[.slice none 0 0, .slice none 0 0, .slice none 0 0] 27))
  have HXW : Hid (W.heap.size ≤ x) := by show _ ≤ _; rw [hx.out]; exact hB1.size
  have HZ : Hid (BSt W x 0 none none none 0 0 0 0 0 0 [] [] [] w2) := BSt.zero (blkN hw2.out hx.out) (by rw [hw2.out]; exact bNew hB1 _)
  clear hB1
  go_upto_block 0 with fail
  rw [← hw2.out, ← hx.out]
  clear hw2 hx
  go_cut [7] (fun _ wx => ∃ (k : Nat) (am ab ac : Option Addr) (nl kl nb kb nc kc : Nat) (live : List Msg5) (bs cl : List Dot2), k ≤ 6 ∧ BSt W x k am ab ac nl kl nb kb nc kc live bs cl wx)
  case first => as_aux_lemma =>
    go_wp2_with fail
    go_loopw [7] (fun i wr => ∃ (k : Nat) (am ab ac : Option Addr) (nl kl nb kb nc kc : Nat) (live : List Msg5) (bs cl : List Dot2), k ≤ nn ∧ k ≤ 6 ∧ i = .int .i64 (k : Int) ∧ Hid (BSt W x k am ab ac nl kl nb kb nc kc live bs cl wr)) (fun i _ => nn - (intOf i).toNat)
    case atStart => exact ⟨0, none, none, none, 0, 0, 0, 0, 0, 0, [], [], [], by omega, by omega, rfl, HZ⟩
    case round =>
      obtain ⟨k, am, ab, ac, nl, kl, nb, kb, nc, kc, live, bs, cl, hk, hk6, rfl, hst⟩ := hrel
      by_cases hlt : k < nn ∧ k < 6
      · obtain ⟨hlt1, hlt2⟩ := hlt
        obtain ⟨b, off, ⟨p1, q1, qu, bo, ct⟩, hb, hbl, hpk, hcells⟩ := (G0.out.below hst.out.below).get k (by rw [hl.out]; exact hlt1)
        have dc0 : wr.cell? ⟨b, off + k * 5, none⟩ = some (.int .i64 p1) := hcells 0 _ rfl
        have dc1 : wr.cell? ⟨b, off + k * 5 + 1, none⟩ = some (.int .i64 q1) := hcells 1 _ rfl
        have dc2 : wr.cell? ⟨b, off + k * 5 + 2, none⟩ = some (.string qu) := hcells 2 _ rfl
        have dc3 : wr.cell? ⟨b, off + k * 5 + 3, none⟩ = some (.string bo) := hcells 3 _ rfl
        have dc4 : wr.cell? ⟨b, off + k * 5 + 4, none⟩ = some (.int .i64 ct) := hcells 4 _ rfl
        subst hb
        clear hcells hpk
        obtain ⟨A, hA⟩ := nm (bits .and .i64 p1 3)
        have bA : bits .and .i64 p1 3 = p1 % 4 := and_mod p1 2 (by decide)
        obtain ⟨lA, uA⟩ : 0 ≤ A ∧ A < 4 := by rw [hA.out, bA]; omega
        clear bA
        have eA : bits .and .i64 p1 3 = A := hA.out.symm
        obtain ⟨B, hB⟩ := nm (bits .and .i64 q1 15)
        have bB : bits .and .i64 q1 15 = q1 % 16 := and_mod q1 4 (by decide)
        obtain ⟨lB, uB⟩ : 0 ≤ B ∧ B < 16 := by rw [hB.out, bB]; omega
        clear bB
        have eB : bits .and .i64 q1 15 = B := hB.out.symm
        obtain ⟨C, hC⟩ := nm (bits .and .i64 ct 255)
        have bC : bits .and .i64 ct 255 = ct % 256 := and_mod ct 8 (by decide)
        obtain ⟨lC, uC⟩ : 0 ≤ C ∧ C < 256 := by rw [hC.out, bC]; omega
        clear bC
        have eC : bits .and .i64 ct 255 = C := hC.out.symm
        have wA : IntKind.i64.wrap (1 + A) = 1 + A := by rw [IntKind.wrap_i64]; omega
        have wB : IntKind.i64.wrap (1 + B) = 1 + B := by rw [IntKind.wrap_i64]; omega
        obtain ⟨Q0, hQ0⟩ := nm (ofL ((bl qu).take 9))
        obtain ⟨Q2, hQ2⟩ := nm (ofL ((bl bo).take 60))
        have z0 : Q0.size ≤ 9 := by rw [hQ0.out, ofL_size, List.length_take]; omega
        have z2 : Q2.size ≤ 60 := by rw [hQ2.out]; exact take60 bo
        have hadd := fun w : World => run_string_add_sum (P := Try.prog) w ⟨#[113]⟩ Q0 (by have : (⟨#[113]⟩ : ByteArray).size = 1 := rfl; omega)
        obtain ⟨Q1, hQ1⟩ := nm ((⟨#[113]⟩ : ByteArray) ++ Q0)
        have z1 : Q1.size = 1 + Q0.size := by rw [hQ1.out, ByteArray.size_append]; rfl
        rw [← hQ1.out] at hadd
        have HMAY : Hid (mayM ⟨1 + A, 1 + B, Q1, Q2, C⟩) := by
          refine ⟨?_, show 0 < Q1.size by omega, show Q1.size ≤ 40 by omega, show Q2.size ≤ 1000 by omega, show 0 ≤ C by omega, show C ≤ 1048576 by omega⟩
          show okD (1 + A) (1 + B) = true
          unfold okD
          simp
          omega
        have HTX : Hid (Q1.size ≤ 60 ∧ Q2.size ≤ 60) := by show _ ∧ _; omega
        obtain ⟨y, hy⟩ := nm wr.heap.size
        obtain ⟨w3, hw3⟩ := nm (wr.alloc (.cells #[.int .i64 p1, .int .i64 q1, .string qu, .string bo, .int .i64 ct] 48))
        have Ky : Hid (Blk w3 y #[.int .i64 p1, .int .i64 q1, .string qu, .string bo, .int .i64 ct] 48) := blkN hw3.out hy.out
        have HB3 : Hid (Below wr.heap.size wr w3) := by show Below _ _ _; rw [hw3.out]; exact bOld _
        have HYY : Hid (wr.heap.size ≤ y) := Nat.le_of_eq hy.out.symm
        clear z0 z1 z2
        go_upto_region 7 with fail
        rw [← hw3.out, ← hy.out]
        clear hw3 hy dc0 dc1 dc2 dc3 dc4
        have y0 : w3.cell? ⟨y, 0, none⟩ = some (.int .i64 p1) := Ky.out.cell 0
        have y1 : w3.cell? ⟨y, 1, none⟩ = some (.int .i64 q1) := Ky.out.cell 1
        have f0 : w3.frozen? ⟨y, 0, none⟩ = false := Ky.out.free 0
        have f1 : w3.frozen? ⟨y, 1, none⟩ = false := Ky.out.free 1
        go_upto_region 8 with fail
        obtain ⟨w4, hw4⟩ := nm ((w3.setCell ⟨y, 0, none⟩ (.int .i64 (1 + A))).setCell ⟨y, 1, none⟩ (.int .i64 (1 + B)))
        rw [← hw4.out]
        have Ky4 : Hid (Blk w4 y #[.int .i64 (1 + A), .int .i64 (1 + B), .string qu, .string bo, .int .i64 ct] 48) := by show Blk _ _ _ _; rw [hw4.out]; exact (Ky.out.set 0 _).set 1 _
        have HB4 : Hid (Below wr.heap.size wr w4) := by show Below _ _ _; rw [hw4.out]; exact (HB3.out.setCell (p := ⟨y, 0, none⟩) HYY.out _).setCell (p := ⟨y, 1, none⟩) HYY.out _
        clear y0 y1 f0 f1 hw4 Ky HB3 eA eB
        have y2 : w4.cell? ⟨y, 2, none⟩ = some (.string qu) := Ky4.out.cell 2
        have f2 : w4.frozen? ⟨y, 2, none⟩ = false := Ky4.out.free 2
        go_upto_region 9 with (go_at_call 17; with_reducible (refine (short_nine qu Q0 hQ0 _).mono ?_); rintro e wq ⟨rfl, rfl⟩)
        obtain ⟨w5, hw5⟩ := nm (w4.setCell ⟨y, 2, none⟩ (.string Q1))
        rw [← hw5.out]
        have Ky5 : Hid (Blk w5 y #[.int .i64 (1 + A), .int .i64 (1 + B), .string Q1, .string bo, .int .i64 ct] 48) := by show Blk _ _ _ _; rw [hw5.out]; exact Ky4.out.set 2 _
        have HB5 : Hid (Below wr.heap.size wr w5) := by show Below _ _ _; rw [hw5.out]; exact HB4.out.setCell (p := ⟨y, 2, none⟩) HYY.out _
        clear y2 f2 hw5 Ky4 HB4 hadd hQ1
        have y3 : w5.cell? ⟨y, 3, none⟩ = some (.string bo) := Ky5.out.cell 3
        have f3 : w5.frozen? ⟨y, 3, none⟩ = false := Ky5.out.free 3
        go_upto_region 10 with (go_at_call 17; with_reducible (refine (short_is bo Q2 hQ2 _).mono ?_); rintro e wq ⟨rfl, rfl⟩)
        obtain ⟨w6, hw6⟩ := nm (w5.setCell ⟨y, 3, none⟩ (.string Q2))
        rw [← hw6.out]
        have Ky6 : Hid (Blk w6 y #[.int .i64 (1 + A), .int .i64 (1 + B), .string Q1, .string Q2, .int .i64 ct] 48) := by show Blk _ _ _ _; rw [hw6.out]; exact Ky5.out.set 3 _
        have HB6 : Hid (Below wr.heap.size wr w6) := by show Below _ _ _; rw [hw6.out]; exact HB5.out.setCell (p := ⟨y, 3, none⟩) HYY.out _
        clear y3 f3 hw6 Ky5 HB5
        have y4 : w6.cell? ⟨y, 4, none⟩ = some (.int .i64 ct) := Ky6.out.cell 4
        have f4 : w6.frozen? ⟨y, 4, none⟩ = false := Ky6.out.free 4
        go_upto_region 11 with fail
        obtain ⟨w7, hw7⟩ := nm (w6.setCell ⟨y, 4, none⟩ (.int .i64 C))
        rw [← hw7.out]
        have Ky7 : Hid (Blk w7 y #[.int .i64 (1 + A), .int .i64 (1 + B), .string Q1, .string Q2, .int .i64 C] 48) := by show Blk _ _ _ _; rw [hw7.out]; exact Ky6.out.set 4 _
        have HB7 : Hid (Below wr.heap.size wr w7) := by show Below _ _ _; rw [hw7.out]; exact HB6.out.setCell (p := ⟨y, 4, none⟩) HYY.out _
        have HST : Hid (BSt W x k am ab ac nl kl nb kb nc kc live bs cl w7) := hst.out.grow HB7.out
        clear y4 f4 hw7 Ky6 HB6 hst eC hQ0 hQ2 hA hB hC
        have m0 : w7.cell? ⟨y, 0, none⟩ = some (.int .i64 (1 + A)) := Ky7.out.cell 0
        have m1 : w7.cell? ⟨y, 1, none⟩ = some (.int .i64 (1 + B)) := Ky7.out.cell 1
        have m2 : w7.cell? ⟨y, 2, none⟩ = some (.string Q1) := Ky7.out.cell 2
        have m3 : w7.cell? ⟨y, 3, none⟩ = some (.string Q2) := Ky7.out.cell 3
        have m4 : w7.cell? ⟨y, 4, none⟩ = some (.int .i64 C) := Ky7.out.cell 4
        have c0 : w7.cell? ⟨x, 0, none⟩ = some (.slice am nl kl) := HST.out.bx.cell 0
        have c1 : w7.cell? ⟨x, 1, none⟩ = some (.slice ab nb kb) := HST.out.bx.cell 1
        have c2 : w7.cell? ⟨x, 2, none⟩ = some (.slice ac nc kc) := HST.out.bx.cell 2
        go_wp2_with fail
        refine (refput_any am ab ac nl kl nb kb nc kc live bs cl (1 + A) (1 + B) Q1 Q2 C HST.out.l0 HST.out.l1 HST.out.l2 (by have := HST.out.small; omega) (by have := HST.out.small; omega) (by have := HST.out.small; omega) HST.out.no.1 HST.out.no.2.1 HST.out.no.2.2 HST.out.bag HMAY _ HST.out.s0 HST.out.s1 HST.out.s2).mono ?_
        have HXL : Hid (x < w7.heap.size) := HST.out.bx.lt
        rintro e w8 (⟨_, rfl, hB8⟩ | ⟨hnot, a8, a9, a10, n8, k8, n9, k9, n10, k10, rfl, hlen, hs8, hno8, hat8, hB8⟩)
        · clear m0 m1 m2 m3 m4 c0 c1 c2
          have HST8 : Hid (BSt W x (k + 1) am ab ac nl kl nb kb nc kc live bs cl (w8.alloc (.cells #[.slice none 0 0, .slice none 0 0, .slice none 0 0] 27))) := (HST.out.grow (bNew hB8 _)).succ
          clear HST hB8
          go_wp2_with fail
          go_roundw
          case rel => exact ⟨k + 1, am, ab, ac, nl, kl, nb, kb, nc, kc, live, bs, cl, by omega, by omega, by go_num, HST8⟩
          case measure => simp [intOf]; omega
        · clear m0 m1 m2 m3 m4 c0 c1 c2
          obtain ⟨z, hz⟩ := nm w8.heap.size
          obtain ⟨w9, hw9⟩ := nm (w8.alloc (.cells #[.slice a8 n8 k8, .slice a9 n9 k9, .slice a10 n10 k10] 27))
          have Kz : Hid (Blk w9 z #[.slice a8 n8 k8, .slice a9 n9 k9, .slice a10 n10 k10] 27) := blkN hw9.out hz.out
          have HST9 : Hid (BSt W x k am ab ac nl kl nb kb nc kc live bs cl w9) := by show BSt _ _ _ _ _ _ _ _ _ _ _ _ _ _ _ _; rw [hw9.out]; exact HST.out.grow (bNew hB8 _)
          have hB9 : Below w8.heap.size w8 w9 := by rw [hw9.out]; exact bOld _
          obtain ⟨wz, hwz⟩ := nm (((w9.setCell ⟨x, 0, none⟩ (.slice a8 n8 k8)).setCell ⟨x, 1, none⟩ (.slice a9 n9 k9)).setCell ⟨x, 2, none⟩ (.slice a10 n10 k10))
          have hxl := HXL.out
          have HSTZ : Hid (BSt W x (k + 1) a8 a9 a10 n8 k8 n9 k9 n10 k10 (putM live ⟨1 + A, 1 + B, Q1, Q2, C⟩) (putB bs cl (1 + A, 1 + B)) (putC bs cl (1 + A, 1 + B)) wz) :=
            HST9.out.put HXW.out hk6 HMAY.out HTX.out hnot ⟨hlen.1, hlen.2.1, hlen.2.2.1⟩ hno8 ⟨hs8.1.below hB9, hs8.2.1.below hB9, hs8.2.2.below hB9⟩ ⟨fun a ha => Nat.lt_of_lt_of_le hxl (hat8.1 a ha), fun a ha => Nat.lt_of_lt_of_le hxl (hat8.2.1 a ha), fun a ha => Nat.lt_of_lt_of_le hxl (hat8.2.2 a ha)⟩ hwz.out
          clear hlen hs8 hno8 hat8 hB8 hB9 hnot HST
          go_upto_region 13 with fail
          rw [← hw9.out, ← hz.out]
          clear hw9 hz
          have z0 : w9.cell? ⟨z, 0, none⟩ = some (.slice a8 n8 k8) := Kz.out.cell 0
          have z1 : w9.cell? ⟨z, 1, none⟩ = some (.slice a9 n9 k9) := Kz.out.cell 1
          have z2 : w9.cell? ⟨z, 2, none⟩ = some (.slice a10 n10 k10) := Kz.out.cell 2
          have c0 : w9.cell? ⟨x, 0, none⟩ = some (.slice am nl kl) := HST9.out.bx.cell 0
          have c1 : w9.cell? ⟨x, 1, none⟩ = some (.slice ab nb kb) := HST9.out.bx.cell 1
          have c2 : w9.cell? ⟨x, 2, none⟩ = some (.slice ac nc kc) := HST9.out.bx.cell 2
          have f0 : w9.frozen? ⟨x, 0, none⟩ = false := HST9.out.bx.free 0
          have f1 : w9.frozen? ⟨x, 1, none⟩ = false := HST9.out.bx.free 1
          have f2 : w9.frozen? ⟨x, 2, none⟩ = false := HST9.out.bx.free 2
          go_wp2_with fail
          rw [← hwz.out]
          clear z0 z1 z2 c0 c1 c2 f0 f1 f2 HST9 hwz
          go_roundw
          case rel => exact ⟨k + 1, a8, a9, a10, n8, k8, n9, k9, n10, k10, _, _, _, by omega, by omega, by go_num, HSTZ⟩
          case measure => simp [intOf]; omega
      · go_wp2_with fail
        all_goals
          go_meet
          exact ⟨k, am, ab, ac, nl, kl, nb, kb, nc, kc, live, bs, cl, hk6, hst.out⟩
  obtain ⟨k, am, ab, ac, nl, kl, nb, kb, nc, kc, live, bs, cl, hk6, hst⟩ := hcut
  clear HZ
  rename World => w3
  have HST := Lib.hid hst
  clear hst
  have hMAY : WL.May (WL.mk 1 3 0 P 0 0 0 0 0 ⟨#[]⟩ live bs cl [] []) :=
    may_bag (by omega) (by omega) HST.out.bag
  have hLEN : (WL.mk 1 3 0 P 0 0 0 0 0 ⟨#[]⟩ live bs cl [] []).bytes.length ≤ 8000 := by
    have h1 := HST.out.small
    have h2 := HST.out.l0
    have h3 := HST.out.l1
    have h4 := HST.out.l2
    exact bags_bytes (show (⟨#[]⟩ : ByteArray).size ≤ 60 by decide) (show live.length ≤ 6 by omega) HST.out.txt (show bs.length ≤ 42 by omega) (show cl.length ≤ 6 by omega) (Nat.le_refl 0) (Nat.le_refl 0) hMAY
  obtain ⟨T, hTT⟩ := nm (ofL (WL.mk 1 3 0 P 0 0 0 0 0 ⟨#[]⟩ live bs cl [] []).bytes)
  have HT : Hid (Said (WL.mk 1 3 0 P 0 0 0 0 0 ⟨#[]⟩ live bs cl [] []) T 0) := .inr (.inr ⟨hMAY, hLEN, hTT.out, rfl⟩)
  have hTs : T.size ≤ 8000 := by rw [hTT.out, ofL_size]; exact hLEN
  have HSB : Hid (SaidBy T (WL.mk 1 3 0 P 0 0 0 0 0 ⟨#[]⟩ live bs cl [] [])) := by
    have h1 := HST.out.small
    have h2 := HST.out.l0
    have h3 := HST.out.l1
    have h4 := HST.out.l2
    exact ⟨hMAY, hTs, by rw [hTT.out, bl_ofL], show bs.length ≤ 1000 by omega, show cl.length ≤ 1000 by omega, show live.length ≤ 1000 by omega⟩
  have H1 : Hid (∀ k' f' s' p' fl' d0' d1' rc' lg' mark' live' bs' cl' tags' view' E', Heard T (WL.mk k' f' s' p' fl' d0' d1' rc' lg' mark' live' bs' cl' tags' view') E' → E' = 0 ∧ f' = 3 ∧ P = p' ∧ live = live' ∧ bs = bs' ∧ cl = cl') := by
    intro k' f' s' p' fl' d0' d1' rc' lg' mark' live' bs' cl' tags' view' E' h
    rcases h with ⟨e, h⟩ | ⟨_, _, h⟩
    · have e2 := h.one HSB.out
      cases e2
      exact ⟨e, rfl, rfl, rfl, rfl, rfl⟩
    · exact absurd HSB.out (h _)
  have HSM : Hid (nl ≤ 6 ∧ nb ≤ 42 ∧ nc ≤ 6) := by have := HST.out.small; show _ ∧ _; omega
  clear hMAY hLEN HSB hTT
  have eP := HEP.out
  have c0 : w3.cell? ⟨x, 0, none⟩ = some (.slice am nl kl) := HST.out.bx.cell 0
  have c1 : w3.cell? ⟨x, 1, none⟩ = some (.slice ab nb kb) := HST.out.bx.cell 1
  have c2 : w3.cell? ⟨x, 2, none⟩ = some (.slice ac nc kc) := HST.out.bx.cell 2
  have HL : Hid (Lies w3 am ab ac none none nl nb nc 0 0 live bs cl [] []) := by
    have h1 := HSM.out
    exact ⟨HST.out.l0, HST.out.l1, HST.out.l2, rfl, rfl, by omega, by omega, by omega, by omega, by omega, HST.out.s0, HST.out.s1, HST.out.s2, SlE.nil _ _ _ _, SlE.nil _ _ _ _⟩
  go_wp2_with fail
  refine (wbytes_any 1 3 0 P 0 0 0 0 0 ⟨#[]⟩ am ab ac none none nl kl nb kb nc kc 0 0 0 0 live bs cl [] [] T 0 HT _ HL.out).mono ?_; rintro e w4 ⟨rfl, hB4⟩
  replace HST := Lib.hid (HST.out.grow hB4)
  clear hB4 c0 c1 c2 HL HT eP
  go_wp2_with fail
  refine (wread_any T _ (by omega)).mono ?_; rintro e w5 ⟨k', f', s', p', fl', d0', d1', rc', lg', mark', am', ab', ac', ag', av', nl', kl', nb', kb', nc', kc', ng', kg', nv', kv', live', bs', cl', tags', view', E', rfl, hli', _, hh, hB5⟩
  obtain ⟨rfl, rfl, rfl, rfl, rfl, rfl⟩ := H1.out _ _ _ _ _ _ _ _ _ _ _ _ _ _ _ _ hh
  have HLI := Lib.hid hli'
  replace HST := Lib.hid (HST.out.grow hB5)
  clear hli' hh hB5 H1
  obtain ⟨y, hy⟩ := nm w5.heap.size
  obtain ⟨w6, hw6⟩ := nm (w5.alloc (.cells #[.int .i64 k', .int .i64 3, .int .i64 s', .int .i64 P, .int .i64 fl', .string mark', .slice am' nl' kl', .slice ab' nb' kb', .slice ac' nc' kc', .slice ag' ng' kg', .slice av' nv' kv', .int .i64 d0', .int .i64 d1', .int .i64 rc', .int .i64 lg'] 33))
  have Ky : Hid (Blk w6 y #[.int .i64 k', .int .i64 3, .int .i64 s', .int .i64 P, .int .i64 fl', .string mark', .slice am' nl' kl', .slice ab' nb' kb', .slice ac' nc' kc', .slice ag' ng' kg', .slice av' nv' kv', .int .i64 d0', .int .i64 d1', .int .i64 rc', .int .i64 lg'] 33) := blkN hw6.out hy.out
  replace HST : Hid (BSt W x k am ab ac nl kl nb kb nc kc live bs cl w6) := by show BSt _ _ _ _ _ _ _ _ _ _ _ _ _ _ _ _; rw [hw6.out]; exact HST.out.grow (bOld _)
  replace HLI : Hid (Lies w6 am' ab' ac' ag' av' nl' nb' nc' ng' nv' live bs cl tags' view') := by show Lies _ _ _ _ _ _ _ _ _ _ _ _ _ _ _ _; rw [hw6.out]; exact HLI.out.below (bOld _)
  go_upto_region 16 with fail
  rw [← hw6.out, ← hy.out]
  clear hw6 hy
  have c0 : w6.cell? ⟨x, 0, none⟩ = some (.slice am nl kl) := HST.out.bx.cell 0
  have c1 : w6.cell? ⟨x, 1, none⟩ = some (.slice ab nb kb) := HST.out.bx.cell 1
  have c2 : w6.cell? ⟨x, 2, none⟩ = some (.slice ac nc kc) := HST.out.bx.cell 2
  have y1 : w6.cell? ⟨y, 1, none⟩ = some (.int .i64 3) := Ky.out.cell 1
  have y3 : w6.cell? ⟨y, 3, none⟩ = some (.int .i64 P) := Ky.out.cell 3
  have y6 : w6.cell? ⟨y, 6, none⟩ = some (.slice am' nl' kl') := Ky.out.cell 6
  have y7 : w6.cell? ⟨y, 7, none⟩ = some (.slice ab' nb' kb') := Ky.out.cell 7
  have y8 : w6.cell? ⟨y, 8, none⟩ = some (.slice ac' nc' kc') := Ky.out.cell 8
  go_wp2_with fail
  refine (refbag_any am' ab' ac' am ab ac nl' kl' nb' kb' nc' kc' nl kl nb kb nc kc live live bs cl bs cl HLI.out.l0 HLI.out.l1 HLI.out.l2 HST.out.l0 HST.out.l1 HST.out.l2 HLI.out.m0 HLI.out.m1 HLI.out.m2 true (show true = true ↔ _ from ⟨fun _ => ⟨rfl, rfl, rfl⟩, fun _ => rfl⟩) _ HLI.out.s0 HLI.out.s1 HLI.out.s2 HST.out.s0 HST.out.s1 HST.out.s2).mono ?_; rintro e w7 ⟨rfl, hB7⟩
  have hy6 : y < w6.heap.size := Ky.out.lt
  replace Ky := Lib.hid (Ky.out.below hB7 hy6)
  have HB := Lib.hid (bNext HST.out.below hB7)
  clear hB7 c0 c1 c2 y1 y3 y6 y7 y8 HST HLI
  have y1 : w7.cell? ⟨y, 1, none⟩ = some (.int .i64 3) := Ky.out.cell 1
  have y3 : w7.cell? ⟨y, 3, none⟩ = some (.int .i64 P) := Ky.out.cell 3
  have eP := HEP.out
  go_wp2_with fail
  go_ret
  exact ⟨by simp, HB.out⟩

namespace LWireBags
open Go.ChangeShapes Go.WideShapes Go.ChangeAt
open Go.ChangeMaps (open_string shut_string)

set_option maxRecDepth 100000 in
theorem contract (H : Type) (enc : TypeId × Value → H) (W : World) (base : Nat) (args : Array Value) (ds gs : List (DataW H)) (before : List MemPlace)
    (hval : ∀ (j : Nat) t v, Try.f6.params[j]? = some t → args[j]? = some v → Value.okWide Try.prog W .any base t v)
    (hW : DataW.Whole enc Try.prog Try.f6.params.toList Rows.wireBagsSpec.vars false W args.toList ds gs before)
    (_hsz : (DataW.weightsEach Try.prog (Try.f6.params.toList ++ (OpenSpec.ofChange Rows.wireBagsSpec).bare.plain.varTypes Try.prog) (ds ++ gs)).all (fun x => decide (x ≤ reachBytes)) = true) :
    Calls Try.prog 6 args W fun e W' => ∃ v, e = .returned v ∧ Rows.wireBagsSpec.post enc Try.prog Try.f6 false true false false W args v W' := by
  have hW' := hW
  obtain ⟨p, q, hA0, hV, rfl, hfz, hnd⟩ := hW
  have hA : DataW.TrodAll enc Try.prog W 0 (fun _ => true) true Try.f6.params.toList args.toList ds p := hA0
  rw [Try.params6] at hA hval
  obtain ⟨v0, vs0, d0, ds0, p0, q0, hargs, rfl, rfl, h0, r0⟩ := trodAll_cons hA
  obtain ⟨v1, vs1, d1, ds1, p1, q1, rfl, rfl, rfl, h1, r1⟩ := trodAll_cons r0
  obtain ⟨rfl, rfl, rfl⟩ := trodAll_nil r1
  obtain rfl : args = #[v0, v1] := by cases args; simp_all
  obtain ⟨rfl, rfl⟩ := trodVars_none hV
  obtain ⟨ao0, len0, cap0, l0, rfl, hl0, hlc0, hcm0, hat0⟩ := open_msgs (hval 0 22 v0 rfl rfl) h0
  obtain ⟨x1, rfl, rfl, rfl, k1⟩ := open_int Try.underlying3 (hval 1 3 v1 rfl rfl) h1
  clear hA0
  refine (wireBags_walk ao0 len0 cap0 l0 hl0 x1 W hat0).mono fun e W' ⟨he, hb⟩ => ?_
  subst he
  exact ⟨_, rfl, law_post laidOut Try.underlying4 rfl (by kernel_rfl) rfl rfl rfl rfl hW' hb⟩

theorem reads (os : Os) {H : Type} (enc : TypeId × Value → H) : ∃ places, DataW.whole enc Try.prog ((World.holding Try.prog os ⟨#[], #[], []⟩).forCall (fun _ _ => 0) ⟨#[], #[.slice none 0 0, .int .i64 0], []⟩).memory Try.f6.params.toList Rows.wireBagsSpec.vars false (#[.slice none 0 0, .int .i64 0] : Array Value).toList 8 = some ([.nil, .lit (.int .i64 0)], [], places) :=
  ⟨[], by kernel_rfl⟩
theorem laid_met (os : Os) : laidMet Try.prog Rows.wireBagsRow.laid ((World.holding Try.prog os ⟨#[], #[], []⟩).forCall (fun _ _ => 0) ⟨#[], #[.slice none 0 0, .int .i64 0], []⟩).memory :=
  laidMet_of_run' 8 (by kernel_rfl) (by kernel_rfl)

set_option maxRecDepth 100000 in
theorem lifted (os : Os) (started : os.Started) (H : Type) (enc : TypeId × Value → H) (F : Stop.Interp) :
    ReturnsInHanded {} Try.checked os 6 .any ((OpenSpec.ofChange Rows.wireBagsSpec).preRow enc Try.prog Try.f6 Rows.wireBagsRow.domain false Rows.wireBagsRow.laid) (((OpenSpec.ofChange Rows.wireBagsSpec).at F).post enc Try.prog Try.f6 false true false false) := by
  obtain ⟨places, hx⟩ := reads os enc
  refine returnsInHanded_of_row (C := Try.checked) (s := OpenSpec.ofChange Rows.wireBagsSpec) own started (by kernel_rfl) Try.func6
    (witness_row_at (enc := enc) (C := Try.checked) false (World.holding Try.prog os ⟨#[], #[], []⟩) #[.slice none 0 0, .int .i64 0] rfl (by kernel_rfl) (by kernel_rfl) (by kernel_rfl)
      (OpenSpec.preRow_of_cond 8 hx (by kernel_rfl) (fun k hk => by cases hk) (by kernel_rfl) (laid_met os))) ?_
  intro W base args ds gs before hval hW _ _ hsz hL _ _
  exact contract H enc W base args ds gs before hval hW hsz

theorem said : Rows.WireBagsSaid :=
  OpenClaim.holds_of_cond 6 Try.f6 rfl rfl rfl rfl rfl rfl rfl ⟨rfl, rfl, rfl, rfl, rfl⟩ rfl rfl rfl rfl rfl (by kernel_rfl) Try.func6 (by kernel_rfl)
    (of_decide_eq_true (by kernel_rfl)) (by unfold Func.isWrapper; first | (rw [if_pos (by decide +kernel)]; kernel_rfl) | (rw [if_neg (by decide +kernel)]; exact ⟨rfl, rfl⟩))
    (fun os started H enc _ F => by rw [OpenClaim.pre_eq_preRow]; exact lifted os started H enc F)
end LWireBags
end Go.Proofs.Ytfpjdmplepepjaa
