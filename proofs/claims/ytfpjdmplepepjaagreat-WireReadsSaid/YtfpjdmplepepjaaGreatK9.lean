/- The document's checks of bags. (and what stands on it: 2 texts in one) -/
import Derived.Test.YtfpjdmplepepjaaGreatK8
import Derived.Test.YtfpjdmplepepjaaGreatK5
/-! WRefBagC: The document's checks of bags. -/
namespace Go.Proofs.YtfpjdmplepepjaaGreat
open Go.RowKit

set_option maxRecDepth 100000 in
set_option maxHeartbeats 4000000 in
theorem refmaym_any (p q : Int) (qu bo : ByteArray) (ct : Int) (r : Bool) (hr : Hid (r = true ↔ mayM ⟨p, q, qu, bo, ct⟩)) (w : World) :
    Calls Tryz.prog 81 #[.agg #[.int .i64 p, .int .i64 q, .string qu, .string bo, .int .i64 ct]] w fun e w' => e = .returned (.bool r) ∧ Below w.heap.size w w' := by
  obtain ⟨w0, hw0⟩ := nm (w.alloc (.cells #[.int .i64 p, .int .i64 q, .string qu, .string bo, .int .i64 ct] 84))
  obtain ⟨x, hx⟩ := nm w.heap.size
  have Kx : Hid (Blk w0 x #[.int .i64 p, .int .i64 q, .string qu, .string bo, .int .i64 ct] 84) := blkN hw0.out hx.out
  have HB0 : Hid (Below w.heap.size w w0) := by rw [hw0.out]; exact bOld _
  obtain ⟨C, hC⟩ := nm (okD p q)
  go_enter Tryz.func81, Tryz.ntmps81
  go_upto_region 1 with fail
  rw [← hw0.out, ← hx.out]
  have c0 : w0.cell? ⟨x, 0, none⟩ = some (.int .i64 p) := Kx.out.cell 0
  have c1 : w0.cell? ⟨x, 1, none⟩ = some (.int .i64 q) := Kx.out.cell 1
  go_wp2_with fail
  refine (refcheck_any p q C hC _).mono ?_; rintro e w1 ⟨rfl, hB1⟩
  replace Kx := Lib.hid (Kx.out.below hB1 Kx.out.lt)
  replace HB0 := Lib.hid (bNext HB0.out hB1)
  clear hB1 c0 c1
  have c2 : w1.cell? ⟨x, 2, none⟩ = some (.string qu) := Kx.out.cell 2
  have c3 : w1.cell? ⟨x, 3, none⟩ = some (.string bo) := Kx.out.cell 3
  have c4 : w1.cell? ⟨x, 4, none⟩ = some (.int .i64 ct) := Kx.out.cell 4
  cases C
  · obtain rfl : r = false := notB hr.out fun h => by have := h.1; rw [dotP, ← hC.out] at this; cases this
    go_wp2_with fail
    go_ret
    exact ⟨rfl, HB0.out⟩
  by_cases g0 : 1 ≤ qu.size
  rotate_left
  · obtain rfl : r = false := notB hr.out fun h => by have := h.2.1; simp only at this; omega
    have k0 : decide ((1 : Int) ≤ (qu.size : Int)) = false := decide_eq_false (by omega)
    clear g0
    go_wp2_with fail
    go_ret
    exact ⟨rfl, HB0.out⟩
  have k0 : decide ((1 : Int) ≤ (qu.size : Int)) = true := decide_eq_true (by omega)
  by_cases g1 : qu.size ≤ 40
  rotate_left
  · obtain rfl : r = false := notB hr.out fun h => by have := h.2.2.1; simp only at this; omega
    have k1 : decide ((qu.size : Int) ≤ 40) = false := decide_eq_false (by omega)
    clear g1
    go_wp2_with fail
    go_ret
    exact ⟨rfl, HB0.out⟩
  have k1 : decide ((qu.size : Int) ≤ 40) = true := decide_eq_true (by omega)
  by_cases g2 : bo.size ≤ 1000
  rotate_left
  · obtain rfl : r = false := notB hr.out fun h => by have := h.2.2.2.1; simp only at this; omega
    have k2 : decide ((bo.size : Int) ≤ 1000) = false := decide_eq_false (by omega)
    clear g2
    go_wp2_with fail
    go_ret
    exact ⟨rfl, HB0.out⟩
  have k2 : decide ((bo.size : Int) ≤ 1000) = true := decide_eq_true (by omega)
  by_cases g3 : 0 ≤ ct
  rotate_left
  · obtain rfl : r = false := notB hr.out fun h => by have := h.2.2.2.2.1; simp only at this; omega
    have k3 : decide (0 ≤ ct) = false := decide_eq_false (by omega)
    clear g3
    go_wp2_with fail
    go_ret
    exact ⟨rfl, HB0.out⟩
  have k3 : decide (0 ≤ ct) = true := decide_eq_true (by omega)
  by_cases g4 : ct ≤ 1048576
  rotate_left
  · obtain rfl : r = false := notB hr.out fun h => by have := h.2.2.2.2.2; simp only at this; omega
    have k4 : decide (ct ≤ 1048576) = false := decide_eq_false (by omega)
    clear g4
    go_wp2_with fail
    go_ret
    exact ⟨rfl, HB0.out⟩
  have k4 : decide (ct ≤ 1048576) = true := decide_eq_true (by omega)
  obtain rfl : r = true := hr.out.2 ⟨hC.out.symm, g0, g1, g2, g3, g4⟩
  clear g0 g1 g2 g3 g4
  go_wp2_with fail
  go_ret
  exact ⟨rfl, HB0.out⟩

set_option maxRecDepth 100000 in
set_option maxHeartbeats 8000000 in
theorem refbagcheck_any (am ab ac : Option Addr) (nl kl nb kb nc kc : Nat) (live : List Msg5) (bs cl : List Dot2) (hn0 : Hid (live.length = nl)) (hm0 : nl ≤ 1000000) (hn : Hid (bs.length = nb)) (hm : nb ≤ 1000000) (hn2 : Hid (cl.length = nc)) (hm2 : nc ≤ 1000000) (r : Bool) (hr : Hid (r = true ↔ BagP live bs cl)) (E : Int) (hE : Hid (E = errno r)) (w : World) (hs0 : SlE eMsg 5 w am live) (hs : SlP w ab bs) (hs2 : SlP w ac cl) :
    Calls Tryz.prog 52 #[.agg #[.slice am nl kl, .slice ab nb kb, .slice ac nc kc]] w fun e w' => e = .returned (.int .i64 E) ∧ Below w.heap.size w w' := by
  obtain ⟨w0, hw0⟩ := nm (w.alloc (.cells #[.slice am nl kl, .slice ab nb kb, .slice ac nc kc] 29))
  obtain ⟨x, hx⟩ := nm w.heap.size
  have Kx : Hid (Blk w0 x #[.slice am nl kl, .slice ab nb kb, .slice ac nc kc] 29) := blkN hw0.out hx.out
  have HB0 : Hid (Below w.heap.size w w0) := by rw [hw0.out]; exact bOld _
  have HS0 : Hid (SlE eMsg 5 w0 am live) := hs0.below HB0.out
  have HS1 : Hid (SlP w0 ab bs) := hs.below HB0.out
  have HS2 : Hid (SlP w0 ac cl) := hs2.below HB0.out
  clear hs hs2 hs0
  obtain ⟨A, hA, _, hA2⟩ := boolOf (CtxP bs cl)
  go_enter Tryz.func52, Tryz.ntmps52
  go_upto_region 1 with fail
  rw [← hw0.out, ← hx.out]
  have c1 : w0.cell? ⟨x, 1, none⟩ = some (.slice ab nb kb) := Kx.out.cell 1
  have c2 : w0.cell? ⟨x, 2, none⟩ = some (.slice ac nc kc) := Kx.out.cell 2
  go_wp2_with fail
  refine (refctxcheck_any ab ac nb kb nc kc bs cl hn hm hn2 hm2 A hA (errno A) rfl _ HS1.out HS2.out).mono ?_; rintro e w1 ⟨rfl, hB1⟩
  replace Kx := Lib.hid (Kx.out.below hB1 Kx.out.lt)
  replace HB0 := Lib.hid (bNext HB0.out hB1)
  replace HS0 := Lib.hid (HS0.out.below hB1)
  replace HS1 := Lib.hid (HS1.out.below hB1)
  replace HS2 := Lib.hid (HS2.out.below hB1)
  clear hB1 c1 c2 hw0
  cases A
  · obtain rfl : r = false := notB hr.out fun h => by have := hA.out.2 h.ctx; cases this
    obtain rfl := hE.out
    simp only [errno]
    go_wp2_with fail
    go_ret
    exact ⟨rfl, HB0.out⟩
  simp only [errno]
  have HC : Hid (CtxP bs cl) := hA2.out rfl
  have HA1 : Hid (Asc bs) := HC.out.asc1
  have HD1 : Hid (∀ x ∈ bs, dotP x) := HC.out.base.all (Nat.le_refl _)
  go_wp2_with fail
  go_loopw [3] (fun i wr => ∃ k : Nat, k ≤ nl ∧ i = .int .i64 (k : Int) ∧ Below w1.heap.size w1 wr ∧ Hid (Chk (fun m => mayM m ∧ hasD bs cl (m.node, m.n)) (fun y m => ltP (y.node, y.n) (m.node, m.n)) live k)) (fun i _ => nl - (intOf i).toNat)
  case atStart => exact ⟨0, by omega, rfl, Below.refl _ _, Lib.hid Chk.zero⟩
  case round =>
    obtain ⟨k, hk, rfl, hB, hI⟩ := hrel
    have c0 : wr.cell? ⟨x, 0, none⟩ = some (.slice am nl kl) := (Kx.out.below hB Kx.out.lt).cell 0
    by_cases hlt : k < nl
    · obtain ⟨b, off, ⟨p, q, qu, bo, ct⟩, rfl, hbl, hp, hcells⟩ := (HS0.out.below hB).get k (by rw [hn0.out]; exact hlt)
      have d0 : wr.cell? ⟨b, off + k * 5, none⟩ = some (.int .i64 p) := hcells 0 _ rfl
      have d1 : wr.cell? ⟨b, off + k * 5 + 1, none⟩ = some (.int .i64 q) := hcells 1 _ rfl
      have d2 : wr.cell? ⟨b, off + k * 5 + 2, none⟩ = some (.string qu) := hcells 2 _ rfl
      have d3 : wr.cell? ⟨b, off + k * 5 + 3, none⟩ = some (.string bo) := hcells 3 _ rfl
      have d4 : wr.cell? ⟨b, off + k * 5 + 4, none⟩ = some (.int .i64 ct) := hcells 4 _ rfl
      clear hcells
      obtain ⟨y, hy⟩ := nm wr.heap.size
      obtain ⟨w3, hw3⟩ := nm (wr.alloc (.cells #[.int .i64 p, .int .i64 q, .string qu, .string bo, .int .i64 ct] 84))
      have Ky : Hid (Blk w3 y #[.int .i64 p, .int .i64 q, .string qu, .string bo, .int .i64 ct] 84) := blkN hw3.out hy.out
      have Kx3 : Hid (Blk w3 x #[.slice (some ⟨b, off, none⟩) nl kl, .slice ab nb kb, .slice ac nc kc] 29) := by show Blk _ _ _ _; rw [hw3.out]; exact (Kx.out.below hB Kx.out.lt).alloc _
      have HB3 : Hid (Below w1.heap.size w1 w3) := by rw [hw3.out]; exact bNew hB _
      have HSB : Hid (SlP w3 ab bs) := HS1.out.below HB3.out
      have HSC : Hid (SlP w3 ac cl) := HS2.out.below HB3.out
      obtain ⟨C, hC, hCf, hCt⟩ := boolOf (mayM ⟨p, q, qu, bo, ct⟩)
      obtain ⟨D, hD, hDf, hDt⟩ := boolOf (hasD bs cl (p, q))
      clear hB
      go_upto_region 7 with fail
      rw [← hw3.out, ← hy.out]
      clear d0 d1 d2 d3 d4 c0 hw3
      have e0 : w3.cell? ⟨y, 0, none⟩ = some (.int .i64 p) := Ky.out.cell 0
      have e1 : w3.cell? ⟨y, 1, none⟩ = some (.int .i64 q) := Ky.out.cell 1
      have e2 : w3.cell? ⟨y, 2, none⟩ = some (.string qu) := Ky.out.cell 2
      have e3 : w3.cell? ⟨y, 3, none⟩ = some (.string bo) := Ky.out.cell 3
      have e4 : w3.cell? ⟨y, 4, none⟩ = some (.int .i64 ct) := Ky.out.cell 4
      go_wp2_with fail
      refine (refmaym_any p q qu bo ct C hC _).mono ?_; rintro e w4 ⟨rfl, hB4⟩
      replace Ky := Lib.hid (Ky.out.below hB4 Ky.out.lt)
      replace Kx3 := Lib.hid (Kx3.out.below hB4 Kx3.out.lt)
      replace HB3 := Lib.hid (bNext HB3.out hB4)
      replace HSB := Lib.hid (HSB.out.below hB4)
      replace HSC := Lib.hid (HSC.out.below hB4)
      clear hB4 e0 e1 e2 e3 e4
      have c1 : w4.cell? ⟨x, 1, none⟩ = some (.slice ab nb kb) := Kx3.out.cell 1
      have c2 : w4.cell? ⟨x, 2, none⟩ = some (.slice ac nc kc) := Kx3.out.cell 2
      have e0 : w4.cell? ⟨y, 0, none⟩ = some (.int .i64 p) := Ky.out.cell 0
      have e1 : w4.cell? ⟨y, 1, none⟩ = some (.int .i64 q) := Ky.out.cell 1
      go_wp2_with fail
      refine (refchas_any ab ac nb kb nc kc bs cl hn hm hn2 hm2 p q HA1 HD1 D hD _ HSB.out HSC.out).mono ?_; rintro e w5 ⟨rfl, hB5⟩
      replace Ky := Lib.hid (Ky.out.below hB5 Ky.out.lt)
      replace Kx3 := Lib.hid (Kx3.out.below hB5 Kx3.out.lt)
      replace HB3 := Lib.hid (bNext HB3.out hB5)
      clear hB5 e0 e1 c1 c2
      have HB03 : Hid (Below w.heap.size w w5) := bNext HB0.out HB3.out
      have c0 : w5.cell? ⟨x, 0, none⟩ = some (.slice (some ⟨b, off, none⟩) nl kl) := Kx3.out.cell 0
      have e0 : w5.cell? ⟨y, 0, none⟩ = some (.int .i64 p) := Ky.out.cell 0
      have e1 : w5.cell? ⟨y, 1, none⟩ = some (.int .i64 q) := Ky.out.cell 1
      cases C
      · obtain rfl : r = false := notB hr.out fun h => Chk.not_g (by rw [hn0.out]; exact hlt) hp.out (fun g => hCf.out rfl g.1) h.live
        obtain rfl := hE.out
        go_wp2_with fail
        go_ret
        exact ⟨rfl, HB03.out⟩
      cases D
      · obtain rfl : r = false := notB hr.out fun h => Chk.not_g (by rw [hn0.out]; exact hlt) hp.out (fun g => hDf.out rfl g.2) h.live
        obtain rfl := hE.out
        go_wp2_with fail
        go_ret
        exact ⟨rfl, HB03.out⟩
      have HCt : Hid (mayM ⟨p, q, qu, bo, ct⟩) := hCt.out rfl
      have HDt : Hid (hasD bs cl (p, q)) := hDt.out rfl
      clear hC hCf hCt hD hDf hDt
      by_cases hk0 : k = 0
      · have hk2 : decide (0 < k) = false := decide_eq_false (by omega)
        have hk3 : decide ((0 : Int) < (k : Int)) = false := decide_eq_false (by omega)
        have HI : Hid (Chk (fun m => mayM m ∧ hasD bs cl (m.node, m.n)) (fun y m => ltP (y.node, y.n) (m.node, m.n)) live (k + 1)) := by
          show Chk _ _ _ _
          subst hk0
          exact Chk.first hp.out ⟨HCt.out, HDt.out⟩
        clear hk0
        go_wp2_with fail
        refine wp_region_noPanic ?_
        refine wp_region_held_drew (S := fun w' => w'.cell? ⟨x, 0, none⟩ = some (.slice (some ⟨b, off, none⟩) nl kl) ∧ w'.cell? ⟨y, 0, none⟩ = some (.int .i64 p) ∧ w'.cell? ⟨y, 1, none⟩ = some (.int .i64 q)) (by kernel_rfl) (⟨c0, e0, e1⟩) (fun hHeld => ?_)
        refine wpAnyH_take (i := 0) (v := ?_) (takeL rfl) (by kernel_rfl) (by kernel_rfl) (by kernel_rfl) (fun _ _ _ h => h) (Or.inl ⟨by rfl, ?_⟩) (by assumption) ?_
        rotate_left
        · (intro w hSw; (try dsimp only at hSw); first | (go_simp; done) | (go_simp; with_reducible rfl))
        try simp only [Act.put, List.setIfInBounds_toArray, List.set_cons_zero, List.set_cons_succ]
        refine wpAnyH_take (i := 1) (v := ?_) (takeL rfl) (by kernel_rfl) (by kernel_rfl) (by kernel_rfl) (fun _ _ _ h => h) (Or.inl ⟨by rfl, ?_⟩) (by assumption) ?_
        rotate_left
        · (intro w hSw; (try dsimp only at hSw); first | (go_simp; done) | (go_simp; with_reducible rfl))
        try simp only [Act.put, List.setIfInBounds_toArray, List.set_cons_zero, List.set_cons_succ]
        refine wpAnyH_take (i := 2) (v := ?_) (takeL rfl) (by kernel_rfl) (by kernel_rfl) (by kernel_rfl) (fun _ _ _ h => h) (Or.inl ⟨by rfl, ?_⟩) (by assumption) ?_
        rotate_left
        · (intro w hSw; (try dsimp only at hSw); first | (go_simp; done) | (go_simp; with_reducible rfl))
        try simp only [Act.put, List.setIfInBounds_toArray, List.set_cons_zero, List.set_cons_succ]
        refine wpAnyH_take (i := 3) (v := undef) (takeL rfl) (by kernel_rfl) (by kernel_rfl) (by kernel_rfl) (fun _ _ _ h => h) (Or.inr ⟨by rfl, rfl⟩) (by assumption) ?_
        try simp only [Act.put, List.setIfInBounds_toArray, List.set_cons_zero, List.set_cons_succ]
        refine wpAnyH_take (i := 4) (v := undef) (takeL rfl) (by kernel_rfl) (by kernel_rfl) (by kernel_rfl) (fun _ _ _ h => h) (Or.inr ⟨by rfl, rfl⟩) (by assumption) ?_
        try simp only [Act.put, List.setIfInBounds_toArray, List.set_cons_zero, List.set_cons_succ]
        refine wpAnyH_take (i := 5) (v := undef) (takeL rfl) (by kernel_rfl) (by kernel_rfl) (by kernel_rfl) (fun _ _ _ h => h) (Or.inr ⟨by rfl, rfl⟩) (by assumption) ?_
        try simp only [Act.put, List.setIfInBounds_toArray, List.set_cons_zero, List.set_cons_succ]
        refine wpAnyH_take (i := 6) (v := undef) (takeL rfl) (by kernel_rfl) (by kernel_rfl) (by kernel_rfl) (fun _ _ _ h => h) (Or.inr ⟨by rfl, rfl⟩) (by assumption) ?_
        try simp only [Act.put, List.setIfInBounds_toArray, List.set_cons_zero, List.set_cons_succ]
        refine wpAnyH_take (i := 7) (v := undef) (takeL rfl) (by kernel_rfl) (by kernel_rfl) (by kernel_rfl) (fun _ _ _ h => h) (Or.inr ⟨by rfl, rfl⟩) (by assumption) ?_
        try simp only [Act.put, List.setIfInBounds_toArray, List.set_cons_zero, List.set_cons_succ]
        refine wpAnyH_take (i := 8) (v := undef) (takeL rfl) (by kernel_rfl) (by kernel_rfl) (by kernel_rfl) (fun _ _ _ h => h) (Or.inr ⟨by rfl, rfl⟩) (by assumption) ?_
        try simp only [Act.put, List.setIfInBounds_toArray, List.set_cons_zero, List.set_cons_succ]
        refine wpAnyH_take (i := 9) (v := undef) (takeL rfl) (by kernel_rfl) (by kernel_rfl) (by kernel_rfl) (fun _ _ _ h => h) (Or.inr ⟨by rfl, rfl⟩) (by assumption) ?_
        try simp only [Act.put, List.setIfInBounds_toArray, List.set_cons_zero, List.set_cons_succ]
        refine wpAnyH_take (i := 10) (v := undef) (takeL rfl) (by kernel_rfl) (by kernel_rfl) (by kernel_rfl) (fun _ _ _ h => h) (Or.inr ⟨by rfl, rfl⟩) (by assumption) ?_
        try simp only [Act.put, List.setIfInBounds_toArray, List.set_cons_zero, List.set_cons_succ]
        refine wpAnyH_take (i := 11) (v := undef) (takeL rfl) (by kernel_rfl) (by kernel_rfl) (by kernel_rfl) (fun _ _ _ h => h) (Or.inr ⟨by rfl, rfl⟩) (by assumption) ?_
        try simp only [Act.put, List.setIfInBounds_toArray, List.set_cons_zero, List.set_cons_succ]
        refine wpAnyH_take (i := 12) (v := undef) (takeL rfl) (by kernel_rfl) (by kernel_rfl) (by kernel_rfl) (fun _ _ _ h => h) (Or.inr ⟨by rfl, rfl⟩) (by assumption) ?_
        try simp only [Act.put, List.setIfInBounds_toArray, List.set_cons_zero, List.set_cons_succ]
        refine wpAnyH_take (i := 13) (v := undef) (takeL rfl) (by kernel_rfl) (by kernel_rfl) (by kernel_rfl) (fun _ _ _ h => h) (Or.inr ⟨by rfl, rfl⟩) (by assumption) ?_
        try simp only [Act.put, List.setIfInBounds_toArray, List.set_cons_zero, List.set_cons_succ]
        refine wpAnyH_take (i := 14) (v := ?_) (takeL rfl) (by kernel_rfl) (by kernel_rfl) (by kernel_rfl) (fun _ _ _ h => h) (Or.inl ⟨by rfl, ?_⟩) (by assumption) ?_
        rotate_left
        · (intro w hSw; (try dsimp only at hSw); first | (go_simp; done) | (go_simp; with_reducible rfl))
        try simp only [Act.put, List.setIfInBounds_toArray, List.set_cons_zero, List.set_cons_succ]
        refine wpAnyH_done (by kernel_rfl) ?_ _
        refine NoPanic.normal ?_
        go_wp2_with fail
        go_roundw
        case rel => exact ⟨k + 1, by omega, by go_num, bDrew HB3.out, HI⟩
        case measure => simp [intOf]; omega
      · obtain ⟨m, hkm⟩ : ∃ m, k = m + 1 := ⟨k - 1, by omega⟩
        have hmk : m < k := by omega
        have hmn : m < nl := by omega
        have hwm : IntKind.i64.wrap ((k : Int) - 1) = (m : Int) := by rw [IntKind.wrap_i64]; omega
        have hk1 : 0 < k := by omega
        have hk2 : decide (0 < k) = true := decide_eq_true hk1
        have hk3 : decide ((0 : Int) < (k : Int)) = true := decide_eq_true (by omega)
        obtain ⟨b', off', ⟨p', q', qu', bo', ct'⟩, hb', hbl', hp', hcells'⟩ := (HS0.out.below HB3.out).get m (by rw [hn0.out]; exact hmn)
        cases hb'
        have f0 : w5.cell? ⟨b, off + m * 5, none⟩ = some (.int .i64 p') := hcells' 0 _ rfl
        have f1 : w5.cell? ⟨b, off + m * 5 + 1, none⟩ = some (.int .i64 q') := hcells' 1 _ rfl
        obtain ⟨L, hL⟩ : ∃ L : Bool, Hid (decide (ltP (p', q') (p, q)) = L) := ⟨_, rfl⟩
        have HKM : Hid (k = m + 1) := hkm
        have hbl3 : Hid (b < w5.heap.size) := hbl'
        clear hkm hk0 hcells'
        have KEEP : Hid (∀ wb : World, Below w5.drew.heap.size w5.drew wb → wb.cell? ⟨x, 0, none⟩ = some (.slice (some ⟨b, off, none⟩) nl kl) ∧ wb.cell? ⟨y, 0, none⟩ = some (.int .i64 p) ∧ wb.cell? ⟨y, 1, none⟩ = some (.int .i64 q) ∧ wb.cell? ⟨b, off + m * 5, none⟩ = some (.int .i64 p') ∧ wb.cell? ⟨b, off + m * 5 + 1, none⟩ = some (.int .i64 q')) := by
          show ∀ wb : World, _
          intro wb h
          have h1 := Blk.below (w := w5.drew) Kx3.out h Kx3.out.lt
          have h2 := Blk.below (w := w5.drew) Ky.out h Ky.out.lt
          exact ⟨h1.cell 0, h2.cell 0, h2.cell 1, (h.cell (p := ⟨b, off + m * 5, none⟩) hbl3.out).trans f0, (h.cell (p := ⟨b, off + m * 5 + 1, none⟩) hbl3.out).trans f1⟩
        go_wp2_with fail
        cases L
        · obtain rfl : r = false := notB hr.out fun h => by
            have h2 := hp.out
            have h3 := hlt
            rw [HKM.out] at h2 h3
            exact Chk.not_r (r := (fun y m => ltP (y.node, y.n) (m.node, m.n))) (by rw [hn0.out]; exact h3) h2 hp'.out (by simpa using hL.out) h.live
          obtain rfl := hE.out
          refine wp_region_noPanic ?_
          refine wp_region_held_drew (S := fun w' => w'.cell? ⟨x, 0, none⟩ = some (.slice (some ⟨b, off, none⟩) nl kl) ∧ w'.cell? ⟨y, 0, none⟩ = some (.int .i64 p) ∧ w'.cell? ⟨y, 1, none⟩ = some (.int .i64 q) ∧ w'.cell? ⟨b, off + m * 5, none⟩ = some (.int .i64 p') ∧ w'.cell? ⟨b, off + m * 5 + 1, none⟩ = some (.int .i64 q')) (by kernel_rfl) (⟨c0, e0, e1, f0, f1⟩) (fun hHeld => ?_)
          refine wpAnyH_take (i := 0) (v := ?_) (takeL rfl) (by kernel_rfl) (by kernel_rfl) (by kernel_rfl) (fun _ _ _ h => h) (Or.inl ⟨by rfl, ?_⟩) (by assumption) ?_
          rotate_left
          · (intro w hSw; (try dsimp only at hSw); first | (go_simp; done) | (go_simp; with_reducible rfl))
          try simp only [Act.put, List.setIfInBounds_toArray, List.set_cons_zero, List.set_cons_succ]
          refine wpAnyH_take (i := 1) (v := ?_) (takeL rfl) (by kernel_rfl) (by kernel_rfl) (by kernel_rfl) (fun _ _ _ h => h) (Or.inl ⟨by rfl, ?_⟩) (by assumption) ?_
          rotate_left
          · (intro w hSw; (try dsimp only at hSw); first | (go_simp; done) | (go_simp; with_reducible rfl))
          try simp only [Act.put, List.setIfInBounds_toArray, List.set_cons_zero, List.set_cons_succ]
          refine wpAnyH_take (i := 2) (v := ?_) (takeL rfl) (by kernel_rfl) (by kernel_rfl) (by kernel_rfl) (fun _ _ _ h => h) (Or.inl ⟨by rfl, ?_⟩) (by assumption) ?_
          rotate_left
          · (intro w hSw; (try dsimp only at hSw); first | (go_simp; done) | (go_simp; with_reducible rfl))
          try simp only [Act.put, List.setIfInBounds_toArray, List.set_cons_zero, List.set_cons_succ]
          refine wpAnyH_take (i := 3) (v := ?_) (takeL rfl) (by kernel_rfl) (by kernel_rfl) (by kernel_rfl) (fun _ _ _ h => h) (Or.inl ⟨by rfl, ?_⟩) (by assumption) ?_
          rotate_left
          · (intro w hSw; (try dsimp only at hSw); first | (go_simp; done) | (go_simp; with_reducible rfl))
          try simp only [Act.put, List.setIfInBounds_toArray, List.set_cons_zero, List.set_cons_succ]
          refine wpAnyH_take (i := 4) (v := ?_) (takeL rfl) (by kernel_rfl) (by kernel_rfl) (by kernel_rfl) (fun _ _ _ h => h) (Or.inl ⟨by rfl, ?_⟩) (by assumption) ?_
          rotate_left
          · (intro w hSw; (try dsimp only at hSw); first | (go_simp; done) | (go_simp; with_reducible rfl))
          try simp only [Act.put, List.setIfInBounds_toArray, List.set_cons_zero, List.set_cons_succ]
          refine wpAnyH_take (i := 5) (v := ?_) (takeL rfl) (by kernel_rfl) (by kernel_rfl) (by kernel_rfl) (fun _ _ _ h => h) (Or.inl ⟨by rfl, ?_⟩) (by assumption) ?_
          rotate_left
          · (intro w hSw; (try dsimp only at hSw); first | (go_simp; done) | (go_simp; with_reducible rfl))
          try simp only [Act.put, List.setIfInBounds_toArray, List.set_cons_zero, List.set_cons_succ]
          refine wpAnyH_take (i := 6) (v := ?_) (takeL rfl) (by kernel_rfl) (by kernel_rfl) (by kernel_rfl) (fun _ _ _ h => h) (Or.inl ⟨by rfl, ?_⟩) (by assumption) ?_
          rotate_left
          · (intro w hSw; (try dsimp only at hSw); first | (go_simp; done) | (go_simp; with_reducible rfl))
          try simp only [Act.put, List.setIfInBounds_toArray, List.set_cons_zero, List.set_cons_succ]
          refine wpAnyH_take (i := 7) (v := ?_) (takeL rfl) (by kernel_rfl) (by kernel_rfl) (by kernel_rfl) (fun _ _ _ h => h) (Or.inl ⟨by rfl, ?_⟩) (by assumption) ?_
          rotate_left
          · (intro w hSw; (try dsimp only at hSw); first | (go_simp; done) | (go_simp; with_reducible rfl))
          try simp only [Act.put, List.setIfInBounds_toArray, List.set_cons_zero, List.set_cons_succ]
          refine wpAnyH_take (i := 8) (v := ?_) (takeL rfl) (by kernel_rfl) (by kernel_rfl) (by kernel_rfl) (fun _ _ _ h => h) (Or.inl ⟨by rfl, ?_⟩) (by assumption) ?_
          rotate_left
          · (intro w hSw; (try dsimp only at hSw); first | (go_simp; done) | (go_simp; with_reducible rfl))
          try simp only [Act.put, List.setIfInBounds_toArray, List.set_cons_zero, List.set_cons_succ]
          refine wpAnyH_take (i := 9) (v := ?_) (takeL rfl) (by kernel_rfl) (by kernel_rfl) (by kernel_rfl) (fun _ _ _ h => h) (Or.inl ⟨by rfl, ?_⟩) (by assumption) ?_
          rotate_left
          · (intro w hSw; (try dsimp only at hSw); first | (go_simp; done) | (go_simp; with_reducible rfl))
          try simp only [Act.put, List.setIfInBounds_toArray, List.set_cons_zero, List.set_cons_succ]
          refine wpAnyH_take (i := 10) (v := ?_) (takeL rfl) (by kernel_rfl) (by kernel_rfl) (by kernel_rfl) (fun _ _ _ h => h) (Or.inl ⟨by rfl, ?_⟩) (by assumption) ?_
          rotate_left
          · (intro w hSw; (try dsimp only at hSw); first | (go_simp; done) | (go_simp; with_reducible rfl))
          try simp only [Act.put, List.setIfInBounds_toArray, List.set_cons_zero, List.set_cons_succ]
          refine wpAnyH_take (i := 11) (v := ?_) (takeL rfl) (by kernel_rfl) (by kernel_rfl) (by kernel_rfl) (fun _ _ _ h => h) (Or.inl ⟨by rfl, ?_⟩) (by assumption) ?_
          rotate_left
          · (intro w hSw; (try dsimp only at hSw); first | (go_simp; done) | (go_simp; with_reducible rfl))
          try simp only [Act.put, List.setIfInBounds_toArray, List.set_cons_zero, List.set_cons_succ]
          refine wpAnyH_ready (rs := [12]) (by kernel_rfl) (by simp) ?_
          refine AllReadyH.cons (takeL rfl) (fun K hK => ?_) AllReadyH.nil
          go_simp
          refine (refless_any p' q' p q false (hidSymm hL) _).mono ?_; rintro e w6 ⟨rfl, hB6⟩
          go_wp2_with fail
          refine hK.out _ _ (KEEP.out _ hB6) (fun hHeld => ?_)
          clear hK K
          refine wpAnyH_take (i := 13) (v := ?_) (takeL rfl) (by kernel_rfl) (by kernel_rfl) (by kernel_rfl) (fun _ _ _ h => h) (Or.inl ⟨by rfl, ?_⟩) (by assumption) ?_
          rotate_left
          · (intro w hSw; (try dsimp only at hSw); first | (go_simp; done) | (go_simp; with_reducible rfl))
          try simp only [Act.put, List.setIfInBounds_toArray, List.set_cons_zero, List.set_cons_succ]
          refine wpAnyH_take (i := 14) (v := ?_) (takeL rfl) (by kernel_rfl) (by kernel_rfl) (by kernel_rfl) (fun _ _ _ h => h) (Or.inl ⟨by rfl, ?_⟩) (by assumption) ?_
          rotate_left
          · (intro w hSw; (try dsimp only at hSw); first | (go_simp; done) | (go_simp; with_reducible rfl))
          try simp only [Act.put, List.setIfInBounds_toArray, List.set_cons_zero, List.set_cons_succ]
          refine wpAnyH_done (by kernel_rfl) ?_ _
          refine NoPanic.normal ?_
          go_wp2_with fail
          go_ret
          exact ⟨rfl, bNext (bDrew HB03.out) hB6⟩
        · have HI : Hid (Chk (fun m => mayM m ∧ hasD bs cl (m.node, m.n)) (fun y m => ltP (y.node, y.n) (m.node, m.n)) live (k + 1)) := by
            show Chk _ _ _ _
            have h1 := hI.out
            have h2 := hp.out
            rw [HKM.out] at h1 h2 ⊢
            exact Chk.next h1 h2 ⟨HCt.out, HDt.out⟩ hp'.out (by simpa using hL.out)
          refine wp_region_noPanic ?_
          refine wp_region_held_drew (S := fun w' => w'.cell? ⟨x, 0, none⟩ = some (.slice (some ⟨b, off, none⟩) nl kl) ∧ w'.cell? ⟨y, 0, none⟩ = some (.int .i64 p) ∧ w'.cell? ⟨y, 1, none⟩ = some (.int .i64 q) ∧ w'.cell? ⟨b, off + m * 5, none⟩ = some (.int .i64 p') ∧ w'.cell? ⟨b, off + m * 5 + 1, none⟩ = some (.int .i64 q')) (by kernel_rfl) (⟨c0, e0, e1, f0, f1⟩) (fun hHeld => ?_)
          refine wpAnyH_take (i := 0) (v := ?_) (takeL rfl) (by kernel_rfl) (by kernel_rfl) (by kernel_rfl) (fun _ _ _ h => h) (Or.inl ⟨by rfl, ?_⟩) (by assumption) ?_
          rotate_left
          · (intro w hSw; (try dsimp only at hSw); first | (go_simp; done) | (go_simp; with_reducible rfl))
          try simp only [Act.put, List.setIfInBounds_toArray, List.set_cons_zero, List.set_cons_succ]
          refine wpAnyH_take (i := 1) (v := ?_) (takeL rfl) (by kernel_rfl) (by kernel_rfl) (by kernel_rfl) (fun _ _ _ h => h) (Or.inl ⟨by rfl, ?_⟩) (by assumption) ?_
          rotate_left
          · (intro w hSw; (try dsimp only at hSw); first | (go_simp; done) | (go_simp; with_reducible rfl))
          try simp only [Act.put, List.setIfInBounds_toArray, List.set_cons_zero, List.set_cons_succ]
          refine wpAnyH_take (i := 2) (v := ?_) (takeL rfl) (by kernel_rfl) (by kernel_rfl) (by kernel_rfl) (fun _ _ _ h => h) (Or.inl ⟨by rfl, ?_⟩) (by assumption) ?_
          rotate_left
          · (intro w hSw; (try dsimp only at hSw); first | (go_simp; done) | (go_simp; with_reducible rfl))
          try simp only [Act.put, List.setIfInBounds_toArray, List.set_cons_zero, List.set_cons_succ]
          refine wpAnyH_take (i := 3) (v := ?_) (takeL rfl) (by kernel_rfl) (by kernel_rfl) (by kernel_rfl) (fun _ _ _ h => h) (Or.inl ⟨by rfl, ?_⟩) (by assumption) ?_
          rotate_left
          · (intro w hSw; (try dsimp only at hSw); first | (go_simp; done) | (go_simp; with_reducible rfl))
          try simp only [Act.put, List.setIfInBounds_toArray, List.set_cons_zero, List.set_cons_succ]
          refine wpAnyH_take (i := 4) (v := ?_) (takeL rfl) (by kernel_rfl) (by kernel_rfl) (by kernel_rfl) (fun _ _ _ h => h) (Or.inl ⟨by rfl, ?_⟩) (by assumption) ?_
          rotate_left
          · (intro w hSw; (try dsimp only at hSw); first | (go_simp; done) | (go_simp; with_reducible rfl))
          try simp only [Act.put, List.setIfInBounds_toArray, List.set_cons_zero, List.set_cons_succ]
          refine wpAnyH_take (i := 5) (v := ?_) (takeL rfl) (by kernel_rfl) (by kernel_rfl) (by kernel_rfl) (fun _ _ _ h => h) (Or.inl ⟨by rfl, ?_⟩) (by assumption) ?_
          rotate_left
          · (intro w hSw; (try dsimp only at hSw); first | (go_simp; done) | (go_simp; with_reducible rfl))
          try simp only [Act.put, List.setIfInBounds_toArray, List.set_cons_zero, List.set_cons_succ]
          refine wpAnyH_take (i := 6) (v := ?_) (takeL rfl) (by kernel_rfl) (by kernel_rfl) (by kernel_rfl) (fun _ _ _ h => h) (Or.inl ⟨by rfl, ?_⟩) (by assumption) ?_
          rotate_left
          · (intro w hSw; (try dsimp only at hSw); first | (go_simp; done) | (go_simp; with_reducible rfl))
          try simp only [Act.put, List.setIfInBounds_toArray, List.set_cons_zero, List.set_cons_succ]
          refine wpAnyH_take (i := 7) (v := ?_) (takeL rfl) (by kernel_rfl) (by kernel_rfl) (by kernel_rfl) (fun _ _ _ h => h) (Or.inl ⟨by rfl, ?_⟩) (by assumption) ?_
          rotate_left
          · (intro w hSw; (try dsimp only at hSw); first | (go_simp; done) | (go_simp; with_reducible rfl))
          try simp only [Act.put, List.setIfInBounds_toArray, List.set_cons_zero, List.set_cons_succ]
          refine wpAnyH_take (i := 8) (v := ?_) (takeL rfl) (by kernel_rfl) (by kernel_rfl) (by kernel_rfl) (fun _ _ _ h => h) (Or.inl ⟨by rfl, ?_⟩) (by assumption) ?_
          rotate_left
          · (intro w hSw; (try dsimp only at hSw); first | (go_simp; done) | (go_simp; with_reducible rfl))
          try simp only [Act.put, List.setIfInBounds_toArray, List.set_cons_zero, List.set_cons_succ]
          refine wpAnyH_take (i := 9) (v := ?_) (takeL rfl) (by kernel_rfl) (by kernel_rfl) (by kernel_rfl) (fun _ _ _ h => h) (Or.inl ⟨by rfl, ?_⟩) (by assumption) ?_
          rotate_left
          · (intro w hSw; (try dsimp only at hSw); first | (go_simp; done) | (go_simp; with_reducible rfl))
          try simp only [Act.put, List.setIfInBounds_toArray, List.set_cons_zero, List.set_cons_succ]
          refine wpAnyH_take (i := 10) (v := ?_) (takeL rfl) (by kernel_rfl) (by kernel_rfl) (by kernel_rfl) (fun _ _ _ h => h) (Or.inl ⟨by rfl, ?_⟩) (by assumption) ?_
          rotate_left
          · (intro w hSw; (try dsimp only at hSw); first | (go_simp; done) | (go_simp; with_reducible rfl))
          try simp only [Act.put, List.setIfInBounds_toArray, List.set_cons_zero, List.set_cons_succ]
          refine wpAnyH_take (i := 11) (v := ?_) (takeL rfl) (by kernel_rfl) (by kernel_rfl) (by kernel_rfl) (fun _ _ _ h => h) (Or.inl ⟨by rfl, ?_⟩) (by assumption) ?_
          rotate_left
          · (intro w hSw; (try dsimp only at hSw); first | (go_simp; done) | (go_simp; with_reducible rfl))
          try simp only [Act.put, List.setIfInBounds_toArray, List.set_cons_zero, List.set_cons_succ]
          refine wpAnyH_ready (rs := [12]) (by kernel_rfl) (by simp) ?_
          refine AllReadyH.cons (takeL rfl) (fun K hK => ?_) AllReadyH.nil
          go_simp
          refine (refless_any p' q' p q true (hidSymm hL) _).mono ?_; rintro e w6 ⟨rfl, hB6⟩
          go_wp2_with fail
          refine hK.out _ _ (KEEP.out _ hB6) (fun hHeld => ?_)
          clear hK K
          refine wpAnyH_take (i := 13) (v := ?_) (takeL rfl) (by kernel_rfl) (by kernel_rfl) (by kernel_rfl) (fun _ _ _ h => h) (Or.inl ⟨by rfl, ?_⟩) (by assumption) ?_
          rotate_left
          · (intro w hSw; (try dsimp only at hSw); first | (go_simp; done) | (go_simp; with_reducible rfl))
          try simp only [Act.put, List.setIfInBounds_toArray, List.set_cons_zero, List.set_cons_succ]
          refine wpAnyH_take (i := 14) (v := ?_) (takeL rfl) (by kernel_rfl) (by kernel_rfl) (by kernel_rfl) (fun _ _ _ h => h) (Or.inl ⟨by rfl, ?_⟩) (by assumption) ?_
          rotate_left
          · (intro w hSw; (try dsimp only at hSw); first | (go_simp; done) | (go_simp; with_reducible rfl))
          try simp only [Act.put, List.setIfInBounds_toArray, List.set_cons_zero, List.set_cons_succ]
          refine wpAnyH_done (by kernel_rfl) ?_ _
          refine NoPanic.normal ?_
          go_wp2_with fail
          go_roundw
          case rel => exact ⟨k + 1, by omega, by go_num, bNext (bDrew HB3.out) hB6, HI⟩
          case measure => simp [intOf]; omega
    · obtain rfl : k = nl := by omega
      obtain rfl : r = true := hr.out.2 ⟨HC.out, by rw [hn0.out]; exact hI.out⟩
      obtain rfl := hE.out
      go_wp2_with fail
      go_ret
      exact ⟨rfl, bNext HB0.out hB⟩
end Go.Proofs.YtfpjdmplepepjaaGreat

/-! WireAwake: Wire's Same, of the chapter's example; awake. -/
namespace Go.Proofs.YtfpjdmplepepjaaGreat
open Go.RowKit

set_option maxRecDepth 100000 in
set_option maxHeartbeats 16000000 in
theorem same7 (w : World) : Calls Tryz.prog 11 #[.agg #[.int .i64 7, .int .i64 1, .int .i64 0, .int .i64 0, .int .i64 0, .string ⟨#[]⟩, .slice none 0 0, .slice none 0 0, .slice none 0 0, .slice none 0 0, .slice none 0 0, .int .i64 0, .int .i64 0, .int .i64 0, .int .i64 0], .agg #[.int .i64 7, .int .i64 1, .int .i64 0, .int .i64 0, .int .i64 0, .string ⟨#[]⟩, .slice none 0 0, .slice none 0 0, .slice none 0 0, .slice none 0 0, .slice none 0 0, .int .i64 0, .int .i64 0, .int .i64 0, .int .i64 0]] w fun e w' => e = .returned (.bool true) ∧ Below w.heap.size w w' := by
  obtain ⟨w0, hw0⟩ := nm ((w.alloc (.cells #[.int .i64 7, .int .i64 1, .int .i64 0, .int .i64 0, .int .i64 0, .string ⟨#[]⟩, .slice none 0 0, .slice none 0 0, .slice none 0 0, .slice none 0 0, .slice none 0 0, .int .i64 0, .int .i64 0, .int .i64 0, .int .i64 0] 35)).alloc (.cells #[.int .i64 7, .int .i64 1, .int .i64 0, .int .i64 0, .int .i64 0, .string ⟨#[]⟩, .slice none 0 0, .slice none 0 0, .slice none 0 0, .slice none 0 0, .slice none 0 0, .int .i64 0, .int .i64 0, .int .i64 0, .int .i64 0] 35))
  obtain ⟨x, hx⟩ := nm w.heap.size
  obtain ⟨y, hy⟩ := nm (x + 1)
  have Kx : Hid (Blk w0 x #[.int .i64 7, .int .i64 1, .int .i64 0, .int .i64 0, .int .i64 0, .string ⟨#[]⟩, .slice none 0 0, .slice none 0 0, .slice none 0 0, .slice none 0 0, .slice none 0 0, .int .i64 0, .int .i64 0, .int .i64 0, .int .i64 0] 35) := by show Blk _ _ _ _; rw [hw0.out, hx.out]; exact (Blk.new _ _ _).alloc _
  have Ky : Hid (Blk w0 y #[.int .i64 7, .int .i64 1, .int .i64 0, .int .i64 0, .int .i64 0, .string ⟨#[]⟩, .slice none 0 0, .slice none 0 0, .slice none 0 0, .slice none 0 0, .slice none 0 0, .int .i64 0, .int .i64 0, .int .i64 0, .int .i64 0] 35) := by show Blk _ _ _ _; rw [hw0.out, hy.out, hx.out]; exact blk_at (by simp)
  have HB : Hid (Below w.heap.size w w0) := by show Below _ _ _; rw [hw0.out]; exact bNew (bOld _) _
  have hlx : x < w0.heap.size := Kx.out.lt
  have hly : y < w0.heap.size := Ky.out.lt
  have cx0 : w0.cell? ⟨x, 0, none⟩ = some (.int .i64 7) := Kx.out.cell 0
  have cy0 : w0.cell? ⟨y, 0, none⟩ = some (.int .i64 7) := Ky.out.cell 0
  have cx1 : w0.cell? ⟨x, 1, none⟩ = some (.int .i64 1) := Kx.out.cell 1
  have cy1 : w0.cell? ⟨y, 1, none⟩ = some (.int .i64 1) := Ky.out.cell 1
  have cx2 : w0.cell? ⟨x, 2, none⟩ = some (.int .i64 0) := Kx.out.cell 2
  have cy2 : w0.cell? ⟨y, 2, none⟩ = some (.int .i64 0) := Ky.out.cell 2
  have cx3 : w0.cell? ⟨x, 3, none⟩ = some (.int .i64 0) := Kx.out.cell 3
  have cy3 : w0.cell? ⟨y, 3, none⟩ = some (.int .i64 0) := Ky.out.cell 3
  have cx4 : w0.cell? ⟨x, 4, none⟩ = some (.int .i64 0) := Kx.out.cell 4
  have cy4 : w0.cell? ⟨y, 4, none⟩ = some (.int .i64 0) := Ky.out.cell 4
  have cx5 : w0.cell? ⟨x, 5, none⟩ = some (.string ⟨#[]⟩) := Kx.out.cell 5
  have cy5 : w0.cell? ⟨y, 5, none⟩ = some (.string ⟨#[]⟩) := Ky.out.cell 5
  have cx6 : w0.cell? ⟨x, 6, none⟩ = some (.slice none 0 0) := Kx.out.cell 6
  have cy6 : w0.cell? ⟨y, 6, none⟩ = some (.slice none 0 0) := Ky.out.cell 6
  have cx7 : w0.cell? ⟨x, 7, none⟩ = some (.slice none 0 0) := Kx.out.cell 7
  have cy7 : w0.cell? ⟨y, 7, none⟩ = some (.slice none 0 0) := Ky.out.cell 7
  have cx8 : w0.cell? ⟨x, 8, none⟩ = some (.slice none 0 0) := Kx.out.cell 8
  have cy8 : w0.cell? ⟨y, 8, none⟩ = some (.slice none 0 0) := Ky.out.cell 8
  have cx9 : w0.cell? ⟨x, 9, none⟩ = some (.slice none 0 0) := Kx.out.cell 9
  have cy9 : w0.cell? ⟨y, 9, none⟩ = some (.slice none 0 0) := Ky.out.cell 9
  have cx10 : w0.cell? ⟨x, 10, none⟩ = some (.slice none 0 0) := Kx.out.cell 10
  have cy10 : w0.cell? ⟨y, 10, none⟩ = some (.slice none 0 0) := Ky.out.cell 10
  have cx11 : w0.cell? ⟨x, 11, none⟩ = some (.int .i64 0) := Kx.out.cell 11
  have cy11 : w0.cell? ⟨y, 11, none⟩ = some (.int .i64 0) := Ky.out.cell 11
  have cx12 : w0.cell? ⟨x, 12, none⟩ = some (.int .i64 0) := Kx.out.cell 12
  have cy12 : w0.cell? ⟨y, 12, none⟩ = some (.int .i64 0) := Ky.out.cell 12
  have cx13 : w0.cell? ⟨x, 13, none⟩ = some (.int .i64 0) := Kx.out.cell 13
  have cy13 : w0.cell? ⟨y, 13, none⟩ = some (.int .i64 0) := Ky.out.cell 13
  have cx14 : w0.cell? ⟨x, 14, none⟩ = some (.int .i64 0) := Kx.out.cell 14
  have cy14 : w0.cell? ⟨y, 14, none⟩ = some (.int .i64 0) := Ky.out.cell 14
  have HKEEP : Hid (∀ wa : World, Below w0.drew.heap.size w0.drew wa → wa.cell? ⟨x, 0, none⟩ = some (.int .i64 7) ∧ wa.cell? ⟨x, 1, none⟩ = some (.int .i64 1) ∧ wa.cell? ⟨x, 2, none⟩ = some (.int .i64 0) ∧ wa.cell? ⟨x, 3, none⟩ = some (.int .i64 0) ∧ wa.cell? ⟨x, 4, none⟩ = some (.int .i64 0) ∧ wa.cell? ⟨x, 5, none⟩ = some (.string ⟨#[]⟩) ∧ wa.cell? ⟨x, 6, none⟩ = some (.slice none 0 0) ∧ wa.cell? ⟨x, 7, none⟩ = some (.slice none 0 0) ∧ wa.cell? ⟨x, 8, none⟩ = some (.slice none 0 0) ∧ wa.cell? ⟨x, 9, none⟩ = some (.slice none 0 0) ∧ wa.cell? ⟨x, 10, none⟩ = some (.slice none 0 0) ∧ wa.cell? ⟨x, 11, none⟩ = some (.int .i64 0) ∧ wa.cell? ⟨x, 12, none⟩ = some (.int .i64 0) ∧ wa.cell? ⟨x, 13, none⟩ = some (.int .i64 0) ∧ wa.cell? ⟨x, 14, none⟩ = some (.int .i64 0) ∧ wa.cell? ⟨y, 0, none⟩ = some (.int .i64 7) ∧ wa.cell? ⟨y, 1, none⟩ = some (.int .i64 1) ∧ wa.cell? ⟨y, 2, none⟩ = some (.int .i64 0) ∧ wa.cell? ⟨y, 3, none⟩ = some (.int .i64 0) ∧ wa.cell? ⟨y, 4, none⟩ = some (.int .i64 0) ∧ wa.cell? ⟨y, 5, none⟩ = some (.string ⟨#[]⟩) ∧ wa.cell? ⟨y, 6, none⟩ = some (.slice none 0 0) ∧ wa.cell? ⟨y, 7, none⟩ = some (.slice none 0 0) ∧ wa.cell? ⟨y, 8, none⟩ = some (.slice none 0 0) ∧ wa.cell? ⟨y, 9, none⟩ = some (.slice none 0 0) ∧ wa.cell? ⟨y, 10, none⟩ = some (.slice none 0 0) ∧ wa.cell? ⟨y, 11, none⟩ = some (.int .i64 0) ∧ wa.cell? ⟨y, 12, none⟩ = some (.int .i64 0) ∧ wa.cell? ⟨y, 13, none⟩ = some (.int .i64 0) ∧ wa.cell? ⟨y, 14, none⟩ = some (.int .i64 0)) := by
    show ∀ wa : World, _
    intro wa h
    exact ⟨(h.cell (p := ⟨x, 0, none⟩) hlx).trans cx0, (h.cell (p := ⟨x, 1, none⟩) hlx).trans cx1, (h.cell (p := ⟨x, 2, none⟩) hlx).trans cx2, (h.cell (p := ⟨x, 3, none⟩) hlx).trans cx3, (h.cell (p := ⟨x, 4, none⟩) hlx).trans cx4, (h.cell (p := ⟨x, 5, none⟩) hlx).trans cx5, (h.cell (p := ⟨x, 6, none⟩) hlx).trans cx6, (h.cell (p := ⟨x, 7, none⟩) hlx).trans cx7, (h.cell (p := ⟨x, 8, none⟩) hlx).trans cx8, (h.cell (p := ⟨x, 9, none⟩) hlx).trans cx9, (h.cell (p := ⟨x, 10, none⟩) hlx).trans cx10, (h.cell (p := ⟨x, 11, none⟩) hlx).trans cx11, (h.cell (p := ⟨x, 12, none⟩) hlx).trans cx12, (h.cell (p := ⟨x, 13, none⟩) hlx).trans cx13, (h.cell (p := ⟨x, 14, none⟩) hlx).trans cx14, (h.cell (p := ⟨y, 0, none⟩) hly).trans cy0, (h.cell (p := ⟨y, 1, none⟩) hly).trans cy1, (h.cell (p := ⟨y, 2, none⟩) hly).trans cy2, (h.cell (p := ⟨y, 3, none⟩) hly).trans cy3, (h.cell (p := ⟨y, 4, none⟩) hly).trans cy4, (h.cell (p := ⟨y, 5, none⟩) hly).trans cy5, (h.cell (p := ⟨y, 6, none⟩) hly).trans cy6, (h.cell (p := ⟨y, 7, none⟩) hly).trans cy7, (h.cell (p := ⟨y, 8, none⟩) hly).trans cy8, (h.cell (p := ⟨y, 9, none⟩) hly).trans cy9, (h.cell (p := ⟨y, 10, none⟩) hly).trans cy10, (h.cell (p := ⟨y, 11, none⟩) hly).trans cy11, (h.cell (p := ⟨y, 12, none⟩) hly).trans cy12, (h.cell (p := ⟨y, 13, none⟩) hly).trans cy13, (h.cell (p := ⟨y, 14, none⟩) hly).trans cy14⟩
  have heq : ∀ w : World, Sem.run Tryz.prog (binOp .eql 48 (.agg #[.int .i64 7, .int .i64 1, .int .i64 0, .int .i64 0, .int .i64 0, .int .i64 0, .int .i64 0, .int .i64 0, .int .i64 0]) (.agg #[.int .i64 7, .int .i64 1, .int .i64 0, .int .i64 0, .int .i64 0, .int .i64 0, .int .i64 0, .int .i64 0, .int .i64 0])) w = .ok (.bool true) w := fun w => by kernel_rfl
  have hgd := fun (a b : Operand) (w : World) => run_eqGuard_agg (P := Tryz.prog) w .eql 48 a b #[.int .i64 7, .int .i64 1, .int .i64 0, .int .i64 0, .int .i64 0, .int .i64 0, .int .i64 0, .int .i64 0, .int .i64 0] #[.int .i64 7, .int .i64 1, .int .i64 0, .int .i64 0, .int .i64 0, .int .i64 0, .int .i64 0, .int .i64 0, .int .i64 0] (by kernel_rfl)
  have hT : True := trivial
  go_enter Tryz.func11, Tryz.ntmps11
  go_upto_region 1 with fail
  rw [← hw0.out, ← hx.out, ← hy.out]
  go_region_held3 (fun w' => w'.cell? ⟨x, 0, none⟩ = some (.int .i64 7) ∧ w'.cell? ⟨x, 1, none⟩ = some (.int .i64 1) ∧ w'.cell? ⟨x, 2, none⟩ = some (.int .i64 0) ∧ w'.cell? ⟨x, 3, none⟩ = some (.int .i64 0) ∧ w'.cell? ⟨x, 4, none⟩ = some (.int .i64 0) ∧ w'.cell? ⟨x, 5, none⟩ = some (.string ⟨#[]⟩) ∧ w'.cell? ⟨x, 6, none⟩ = some (.slice none 0 0) ∧ w'.cell? ⟨x, 7, none⟩ = some (.slice none 0 0) ∧ w'.cell? ⟨x, 8, none⟩ = some (.slice none 0 0) ∧ w'.cell? ⟨x, 9, none⟩ = some (.slice none 0 0) ∧ w'.cell? ⟨x, 10, none⟩ = some (.slice none 0 0) ∧ w'.cell? ⟨x, 11, none⟩ = some (.int .i64 0) ∧ w'.cell? ⟨x, 12, none⟩ = some (.int .i64 0) ∧ w'.cell? ⟨x, 13, none⟩ = some (.int .i64 0) ∧ w'.cell? ⟨x, 14, none⟩ = some (.int .i64 0) ∧ w'.cell? ⟨y, 0, none⟩ = some (.int .i64 7) ∧ w'.cell? ⟨y, 1, none⟩ = some (.int .i64 1) ∧ w'.cell? ⟨y, 2, none⟩ = some (.int .i64 0) ∧ w'.cell? ⟨y, 3, none⟩ = some (.int .i64 0) ∧ w'.cell? ⟨y, 4, none⟩ = some (.int .i64 0) ∧ w'.cell? ⟨y, 5, none⟩ = some (.string ⟨#[]⟩) ∧ w'.cell? ⟨y, 6, none⟩ = some (.slice none 0 0) ∧ w'.cell? ⟨y, 7, none⟩ = some (.slice none 0 0) ∧ w'.cell? ⟨y, 8, none⟩ = some (.slice none 0 0) ∧ w'.cell? ⟨y, 9, none⟩ = some (.slice none 0 0) ∧ w'.cell? ⟨y, 10, none⟩ = some (.slice none 0 0) ∧ w'.cell? ⟨y, 11, none⟩ = some (.int .i64 0) ∧ w'.cell? ⟨y, 12, none⟩ = some (.int .i64 0) ∧ w'.cell? ⟨y, 13, none⟩ = some (.int .i64 0) ∧ w'.cell? ⟨y, 14, none⟩ = some (.int .i64 0))
    (first
      | exact HKEEP.out _ (bNext (bNext h1 h2) h3)
      | exact HKEEP.out _ (bNext h1 h2)
      | exact HKEEP.out _ h1
      | exact ⟨cell_dr cx0, cell_dr cx1, cell_dr cx2, cell_dr cx3, cell_dr cx4, cell_dr cx5, cell_dr cx6, cell_dr cx7, cell_dr cx8, cell_dr cx9, cell_dr cx10, cell_dr cx11, cell_dr cx12, cell_dr cx13, cell_dr cx14, cell_dr cy0, cell_dr cy1, cell_dr cy2, cell_dr cy3, cell_dr cy4, cell_dr cy5, cell_dr cy6, cell_dr cy7, cell_dr cy8, cell_dr cy9, cell_dr cy10, cell_dr cy11, cell_dr cy12, cell_dr cy13, cell_dr cy14⟩
      | exact ⟨cx0, cx1, cx2, cx3, cx4, cx5, cx6, cx7, cx8, cx9, cx10, cx11, cx12, cx13, cx14, cy0, cy1, cy2, cy3, cy4, cy5, cy6, cy7, cy8, cy9, cy10, cy11, cy12, cy13, cy14⟩)
    (first
      | (go_at_call 29; clear hT; refine (numbers_any 7 1 0 0 0 0 0 0 0 _).mono ?_; rintro e v1 ⟨rfl, h1⟩)
      | (go_at_call 29; refine (numbers_any 7 1 0 0 0 0 0 0 0 _).mono ?_; rintro e v2 ⟨rfl, h2⟩)
      | (go_at_call 40; refine (bagsame0 _).mono ?_; rintro e v3 ⟨rfl, h3⟩)
      | (go_at_call 41; refine (sameT0 _).mono ?_; rintro e v4 ⟨rfl, rfl⟩)
      | (go_at_call 42; refine (sameP0 _).mono ?_; rintro e v5 ⟨rfl, rfl⟩))
  go_wp2_with fail
  go_ret
  exact ⟨rfl, bNext (bDrew HB.out) (bNext (bNext h1 h2) h3)⟩

set_option maxRecDepth 100000 in
set_option maxHeartbeats 16000000 in
theorem awake_any (w : World) : Calls Tryz.prog 4 #[] w fun e w' => e = .returned (.bool true) ∧ Below w.heap.size w w' := by
  obtain ⟨w0, hw0⟩ := nm (w.alloc (.cells #[.int .i64 7, .int .i64 1, .int .i64 0, .int .i64 0, .int .i64 0, .string ⟨#[]⟩, .slice none 0 0, .slice none 0 0, .slice none 0 0, .slice none 0 0, .slice none 0 0, .int .i64 0, .int .i64 0, .int .i64 0, .int .i64 0] 35))
  obtain ⟨x, hx⟩ := nm w.heap.size
  have Kx : Hid (Blk w0 x #[.int .i64 7, .int .i64 1, .int .i64 0, .int .i64 0, .int .i64 0, .string ⟨#[]⟩, .slice none 0 0, .slice none 0 0, .slice none 0 0, .slice none 0 0, .slice none 0 0, .int .i64 0, .int .i64 0, .int .i64 0, .int .i64 0] 35) := by show Blk _ _ _ _; rw [hw0.out, hx.out]; exact Blk.new _ _ _
  have HB : Hid (Below w.heap.size w w0) := by show Below _ _ _; rw [hw0.out]; exact bOld _
  obtain ⟨S, hS⟩ := nm (ofL (wireL [7, 1, 0, 0, 0, 0, 0, 0, 0]))
  have hSp : 0 < S.size := by
    rw [hS.out, ofL_size]
    unfold wireL
    simp
  have HBY : Hid (∀ w, Calls Tryz.prog 9 #[.agg #[.int .i64 7, .int .i64 1, .int .i64 0, .int .i64 0, .int .i64 0, .string ⟨#[]⟩, .slice none 0 0, .slice none 0 0, .slice none 0 0, .slice none 0 0, .slice none 0 0, .int .i64 0, .int .i64 0, .int .i64 0, .int .i64 0]] w fun e w' => e = .returned (.tuple #[.string S, .int .i64 0]) ∧ Below w.heap.size w w') := by intro w; rw [hS.out]; exact bytes_ok 7 1 0 0 0 0 0 0 0 (by decide) (by decide) w
  have HRD : Hid (∀ w, Calls Tryz.prog 6 #[.string S] w fun e w' => e = .returned (.tuple #[.agg #[.int .i64 7, .int .i64 1, .int .i64 0, .int .i64 0, .int .i64 0, .string ⟨#[]⟩, .slice none 0 0, .slice none 0 0, .slice none 0 0, .slice none 0 0, .slice none 0 0, .int .i64 0, .int .i64 0, .int .i64 0, .int .i64 0], .int .i64 0]) ∧ Below w.heap.size w w') := by intro w; rw [hS.out]; exact read_ok 7 1 0 0 0 0 0 0 0 (by decide) (by decide) w
  go_enter Tryz.func4, Tryz.ntmps4
  go_upto_region 2 with fail
  rw [← hw0.out, ← hx.out]
  have c0 : w0.cell? ⟨x, 0, none⟩ = some (.int .i64 7) := Kx.out.cell 0
  have c1 : w0.cell? ⟨x, 1, none⟩ = some (.int .i64 1) := Kx.out.cell 1
  have c2 : w0.cell? ⟨x, 2, none⟩ = some (.int .i64 0) := Kx.out.cell 2
  have c3 : w0.cell? ⟨x, 3, none⟩ = some (.int .i64 0) := Kx.out.cell 3
  have c4 : w0.cell? ⟨x, 4, none⟩ = some (.int .i64 0) := Kx.out.cell 4
  have c5 : w0.cell? ⟨x, 5, none⟩ = some (.string ⟨#[]⟩) := Kx.out.cell 5
  have c6 : w0.cell? ⟨x, 6, none⟩ = some (.slice none 0 0) := Kx.out.cell 6
  have c7 : w0.cell? ⟨x, 7, none⟩ = some (.slice none 0 0) := Kx.out.cell 7
  have c8 : w0.cell? ⟨x, 8, none⟩ = some (.slice none 0 0) := Kx.out.cell 8
  have c9 : w0.cell? ⟨x, 9, none⟩ = some (.slice none 0 0) := Kx.out.cell 9
  have c10 : w0.cell? ⟨x, 10, none⟩ = some (.slice none 0 0) := Kx.out.cell 10
  have c11 : w0.cell? ⟨x, 11, none⟩ = some (.int .i64 0) := Kx.out.cell 11
  have c12 : w0.cell? ⟨x, 12, none⟩ = some (.int .i64 0) := Kx.out.cell 12
  have c13 : w0.cell? ⟨x, 13, none⟩ = some (.int .i64 0) := Kx.out.cell 13
  have c14 : w0.cell? ⟨x, 14, none⟩ = some (.int .i64 0) := Kx.out.cell 14
  go_wp2_with fail
  refine (HBY.out _).mono ?_; rintro e w1 ⟨rfl, h1⟩
  replace Kx := Lib.hid (Kx.out.below h1 Kx.out.lt)
  replace HB := Lib.hid (bNext HB.out h1)
  clear h1 c0 c1 c2 c3 c4 c5 c6 c7 c8 c9 c10 c11 c12 c13 c14
  go_wp2_with fail
  refine (HRD.out _).mono ?_; rintro e w2 ⟨rfl, h2⟩
  replace Kx := Lib.hid (Kx.out.below h2 Kx.out.lt)
  replace HB := Lib.hid (bNext HB.out h2)
  obtain ⟨y, hy⟩ := nm w2.heap.size
  obtain ⟨w3, hw3⟩ := nm (w2.alloc (.cells #[.int .i64 7, .int .i64 1, .int .i64 0, .int .i64 0, .int .i64 0, .string ⟨#[]⟩, .slice none 0 0, .slice none 0 0, .slice none 0 0, .slice none 0 0, .slice none 0 0, .int .i64 0, .int .i64 0, .int .i64 0, .int .i64 0] 35))
  have Ky : Hid (Blk w3 y #[.int .i64 7, .int .i64 1, .int .i64 0, .int .i64 0, .int .i64 0, .string ⟨#[]⟩, .slice none 0 0, .slice none 0 0, .slice none 0 0, .slice none 0 0, .slice none 0 0, .int .i64 0, .int .i64 0, .int .i64 0, .int .i64 0] 35) := by show Blk _ _ _ _; rw [hw3.out, hy.out]; exact Blk.new _ _ _
  replace Kx : Hid (Blk w3 x #[.int .i64 7, .int .i64 1, .int .i64 0, .int .i64 0, .int .i64 0, .string ⟨#[]⟩, .slice none 0 0, .slice none 0 0, .slice none 0 0, .slice none 0 0, .slice none 0 0, .int .i64 0, .int .i64 0, .int .i64 0, .int .i64 0] 35) := by show Blk _ _ _ _; rw [hw3.out]; exact Kx.out.alloc _
  replace HB : Hid (Below w.heap.size w w3) := by show Below _ _ _; rw [hw3.out]; exact bNew HB.out _
  clear h2
  go_upto_region 4 with fail
  rw [← hw3.out, ← hy.out]
  go_wp2_with fail
  refine (check_zero _).mono ?_; rintro e w4 ⟨rfl, h4⟩
  replace Kx := Lib.hid (Kx.out.below h4 Kx.out.lt)
  replace Ky := Lib.hid (Ky.out.below h4 Ky.out.lt)
  replace HB := Lib.hid (bNext HB.out h4)
  clear h4
  have c0 : w4.cell? ⟨x, 0, none⟩ = some (.int .i64 7) := Kx.out.cell 0
  have d0 : w4.cell? ⟨y, 0, none⟩ = some (.int .i64 7) := Ky.out.cell 0
  have c1 : w4.cell? ⟨x, 1, none⟩ = some (.int .i64 1) := Kx.out.cell 1
  have d1 : w4.cell? ⟨y, 1, none⟩ = some (.int .i64 1) := Ky.out.cell 1
  have c2 : w4.cell? ⟨x, 2, none⟩ = some (.int .i64 0) := Kx.out.cell 2
  have d2 : w4.cell? ⟨y, 2, none⟩ = some (.int .i64 0) := Ky.out.cell 2
  have c3 : w4.cell? ⟨x, 3, none⟩ = some (.int .i64 0) := Kx.out.cell 3
  have d3 : w4.cell? ⟨y, 3, none⟩ = some (.int .i64 0) := Ky.out.cell 3
  have c4 : w4.cell? ⟨x, 4, none⟩ = some (.int .i64 0) := Kx.out.cell 4
  have d4 : w4.cell? ⟨y, 4, none⟩ = some (.int .i64 0) := Ky.out.cell 4
  have c5 : w4.cell? ⟨x, 5, none⟩ = some (.string ⟨#[]⟩) := Kx.out.cell 5
  have d5 : w4.cell? ⟨y, 5, none⟩ = some (.string ⟨#[]⟩) := Ky.out.cell 5
  have c6 : w4.cell? ⟨x, 6, none⟩ = some (.slice none 0 0) := Kx.out.cell 6
  have d6 : w4.cell? ⟨y, 6, none⟩ = some (.slice none 0 0) := Ky.out.cell 6
  have c7 : w4.cell? ⟨x, 7, none⟩ = some (.slice none 0 0) := Kx.out.cell 7
  have d7 : w4.cell? ⟨y, 7, none⟩ = some (.slice none 0 0) := Ky.out.cell 7
  have c8 : w4.cell? ⟨x, 8, none⟩ = some (.slice none 0 0) := Kx.out.cell 8
  have d8 : w4.cell? ⟨y, 8, none⟩ = some (.slice none 0 0) := Ky.out.cell 8
  have c9 : w4.cell? ⟨x, 9, none⟩ = some (.slice none 0 0) := Kx.out.cell 9
  have d9 : w4.cell? ⟨y, 9, none⟩ = some (.slice none 0 0) := Ky.out.cell 9
  have c10 : w4.cell? ⟨x, 10, none⟩ = some (.slice none 0 0) := Kx.out.cell 10
  have d10 : w4.cell? ⟨y, 10, none⟩ = some (.slice none 0 0) := Ky.out.cell 10
  have c11 : w4.cell? ⟨x, 11, none⟩ = some (.int .i64 0) := Kx.out.cell 11
  have d11 : w4.cell? ⟨y, 11, none⟩ = some (.int .i64 0) := Ky.out.cell 11
  have c12 : w4.cell? ⟨x, 12, none⟩ = some (.int .i64 0) := Kx.out.cell 12
  have d12 : w4.cell? ⟨y, 12, none⟩ = some (.int .i64 0) := Ky.out.cell 12
  have c13 : w4.cell? ⟨x, 13, none⟩ = some (.int .i64 0) := Kx.out.cell 13
  have d13 : w4.cell? ⟨y, 13, none⟩ = some (.int .i64 0) := Ky.out.cell 13
  have c14 : w4.cell? ⟨x, 14, none⟩ = some (.int .i64 0) := Kx.out.cell 14
  have d14 : w4.cell? ⟨y, 14, none⟩ = some (.int .i64 0) := Ky.out.cell 14
  go_wp2_with fail
  refine (same7 _).mono ?_; rintro e w5 ⟨rfl, h5⟩
  replace HB := Lib.hid (bNext HB.out h5)
  clear h5 c0 d0 c1 d1 c2 d2 c3 d3 c4 d4 c5 d5 c6 d6 c7 d7 c8 d8 c9 d9 c10 d10 c11 d11 c12 d12 c13 d13 c14 d14
  go_wp2_with fail
  go_ret
  exact ⟨by simp, HB.out⟩
end Go.Proofs.YtfpjdmplepepjaaGreat

