/- The wheel: down. -/
import Derived.Test.YtipnfalmnoieiaaWheelUp
import Derived.IntWalk
import Derived.Deep.RegionHeld3
namespace Go.Proofs.Ytipnfalmnoieiaa
open Go.RowKit Go.Shelf Go.Lib Go.Sort Go.Maps

/-- The lesser child. -/
def Lst (B : PA) (n k c : Nat) : Prop := (c = 2 * k + 1 ∧ (2 * k + 2 < n → ¬ ltP B[2 * k + 2]! B[2 * k + 1]!)) ∨ (c = 2 * k + 2 ∧ 2 * k + 2 < n ∧ ltP B[2 * k + 2]! B[2 * k + 1]!)
def LstE (B : PA) (n k : Nat) (w : World) (e : Ending) (w' : World) : Prop := (∃ c : Nat, e = .returned (.int .i64 (c : Int)) ∧ Lst B n k c) ∧ Below w.heap.size w w'

set_option maxRecDepth 100000 in
set_option maxHeartbeats 4000000 in
theorem least_any (p g cap m n k bi bw : Nat) (clk : Int) (B : PA) (D : DataW Unit) (hk : 2 * k + 1 < n) (hn : n ≤ 100000) (w : World) (h : Whl w p g cap m n clk B D) (hbi : Blk w bi #[.int .i64 (k : Int)] 3) (hbw : Blk w bw #[.pointer (some ⟨p, 0, none⟩)] 23) :
    Calls Try.prog 32 #[.pointer (some ⟨bi, 0, none⟩), .pointer (some ⟨bw, 0, none⟩)] w (LstE B n k w) := by
  have i0 : w.cell? ⟨bi, 0, none⟩ = some (.int .i64 (k : Int)) := hbi.cell 0
  have b0 : w.cell? ⟨bw, 0, none⟩ = some (.pointer (some ⟨p, 0, none⟩)) := hbw.cell 0
  have c0 : w.cell? ⟨p, 0, none⟩ = some (.slice (some ⟨g, 0, none⟩) n cap) := h.blk.cell 0
  obtain ⟨K, hK⟩ := nm (2 * k + 1)
  have hm1 : 2 * (k : Int) + 1 = (K : Int) := by rw [hK.out]; omega
  have hKn : K < n := by rw [hK.out]; omega
  have hK0 : (0 : Int) ≤ (K : Int) := by omega
  have hK1 : (K : Int) < (n : Int) := by omega
  have hw1 : IntKind.i64.wrap ((K : Int) + 1) = (K : Int) + 1 := IntWalk.i64_in _ (by omega)
  obtain ⟨e0, e1, _, _⟩ := h.row.cells K (by rw [h.size]; exact hKn)
  obtain ⟨x1, hx1⟩ := nm B[K]!.1
  obtain ⟨x2, hx2⟩ := nm B[K]!.2
  have hx : Hid (B[K]! = (x1, x2)) := by show _ = _; rw [hx1.out, hx2.out]
  rw [← hx1.out] at e0
  rw [← hx2.out] at e1
  by_cases h2 : K + 1 < n
  · obtain ⟨f0, f1, _, _⟩ := h.row.cells (K + 1) (by rw [h.size]; exact h2)
    obtain ⟨y1, hy1⟩ := nm B[K + 1]!.1
    obtain ⟨y2, hy2⟩ := nm B[K + 1]!.2
    have hy : Hid (B[K + 1]! = (y1, y2)) := by show _ = _; rw [hy1.out, hy2.out]
    rw [← hy1.out] at f0
    rw [← hy2.out] at f1
    have h2d : decide ((K : Int) + 1 < (n : Int)) = true := decide_eq_true (by omega)
    have h2i : (K : Int) + 1 < (n : Int) := by omega
    have h2z : (0 : Int) ≤ (K : Int) + 1 := by omega
    have h2t : ((K : Int) + 1).toNat = K + 1 := by omega
    have H := Lib.hid h
    clear h hbi hbw
    go_enter Try.func32, Try.ntmps32
    go_wp2_with fail
    refine wp_region_still_tail 24 (by kernel_rfl) (by kernel_rfl) ?_
    simp only [List.take_succ_cons, List.take_zero, List.drop_succ_cons, List.drop_zero]
    change wpStill _ _ (World.drew _) (fun a' => wpList _ _ _ _ a' (World.drew _)) _ _
    repeat still_step
    refine wpStill_nil ?_
    clear i0 b0 c0 e0 e1 f0 f1 hw1 hm1
    by_cases hlt : ltP (y1, y2) (x1, x2)
    · have hL : Hid (Lst B n k (K + 1)) := by
        refine .inr ⟨by rw [hK.out], by rw [hK.out] at h2; exact h2, ?_⟩
        rw [hK.out] at hx hy
        rw [hx.out, show 2 * k + 2 = 2 * k + 1 + 1 from rfl, hy.out]; exact hlt
      go_wp2_with fail
      refine (cmp_lt y1 y2 x1 x2 hlt _).mono ?_; rintro e w2 ⟨⟨C, rfl, hC⟩, hB2⟩
      have hCd : decide (C < 0) = true := decide_eq_true hC
      have hB3 : Hid (Below w.heap.size w w2) := ⟨hB2.os, hB2.tape, hB2.output, hB2.size, hB2.block⟩
      clear hlt hB2
      go_wp2_with fail
      go_ret
      exact ⟨⟨K + 1, by simp, hL.out⟩, hB3.out⟩
    · have hL : Hid (Lst B n k K) := by
        refine .inl ⟨hK.out, fun _ => ?_⟩
        rw [hK.out] at hx hy
        rw [hx.out, show 2 * k + 2 = 2 * k + 1 + 1 from rfl, hy.out]; exact hlt
      go_wp2_with fail
      refine (cmp_ge y1 y2 x1 x2 hlt _).mono ?_; rintro e w2 ⟨⟨C, rfl, hC⟩, hB2⟩
      have hCd : decide (C < 0) = false := decide_eq_false hC
      have hB3 : Hid (Below w.heap.size w w2) := ⟨hB2.os, hB2.tape, hB2.output, hB2.size, hB2.block⟩
      clear hlt hB2
      go_wp2_with fail
      go_ret
      exact ⟨⟨K, rfl, hL.out⟩, hB3.out⟩
  · have hL : Hid (Lst B n k K) := .inl ⟨hK.out, fun h3 => absurd h3 (by rw [hK.out] at h2; exact h2)⟩
    have h2d : decide ((K : Int) + 1 < (n : Int)) = false := decide_eq_false (by omega)
    have h2i : ¬ (K : Int) + 1 < (n : Int) := by omega
    clear h hbi hbw e0 e1
    go_enter Try.func32, Try.ntmps32
    go_wp2_with fail
    go_quiet (fail)
    go_wp2_with fail
    go_ret
    exact ⟨⟨K, rfl, hL.out⟩, below_drewN (Below.refl _ _) _⟩

/-- The place that a block of one number tells. -/
def cellN (w : World) (b : Nat) : Nat := match w.cell? ⟨b, 0, none⟩ with
  | some v => (intOf v).toNat
  | none => 0
theorem cellN_blk {w : World} {b k : Nat} {t : TypeId} (h : Blk w b #[.int .i64 (k : Int)] t) : cellN w b = k := by
  have : w.cell? ⟨b, 0, none⟩ = some (.int .i64 (k : Int)) := h.cell 0
  simp [cellN, this, intOf]

/-- How a wheel stands while one of it goes down. -/
structure DnAt (w w' : World) (p g cap m n : Nat) (clk : Int) (A0 : PA) (a : Int × Int) (i : Nat) (A B : PA) (D : DataW Unit) : Prop where
  whl : Whl w' p g cap m n clk B D
  set_ : B.setIfInBounds i a = A
  dn : DnInv A i
  idx : IdxBut D A i
  perm : A.toList.Perm A0.toList
  kept : KeptS (GM g m) w w'
/-- It stands where it may go up. -/
def DnEnd (w w' : World) (p g cap m n : Nat) (clk : Int) (A0 : PA) (a : Int × Int) : Prop := ∃ A D k, k < n ∧ Whl w' p g cap m n clk A D ∧ UpInv A k ∧ Idx D A ∧ A[k]! = a ∧ A.toList.Perm A0.toList ∧ KeptS (GM g m) w w'
theorem KeptS.toBelow {w v : World} (h : KeptS (fun _ => False) w v) : Below w.heap.size w v := ⟨h.os, h.tape, h.output, h.size, fun k hk => h.block k hk id⟩

theorem lst_least {A B : PA} {n k c : Nat} {a : Int × Int} (h : Lst B n k c) (hs : B.setIfInBounds k a = A) (hA : A.size = n) (hk : 2 * k + 1 < n) (hnd : (idsA A).Nodup) :
    c < n ∧ 0 < c ∧ (c - 1) / 2 = k ∧ ∀ j, 0 < j → j < A.size → (j - 1) / 2 = k → j ≠ c → ltP A[c]! A[j]! := by
  rcases h with ⟨rfl, h⟩ | ⟨rfl, h2, h⟩
  · refine ⟨hk, by omega, by omega, fun j h1 h2 h3 h4 => ?_⟩
    obtain rfl : j = 2 * k + 2 := by omega
    have h5 := h (by omega)
    rw [getB hs (by omega), getB hs (by omega)] at h5
    rcases ltP_total A[2 * k + 1]! A[2 * k + 2]! with e | e | e
    · exact e
    · exact absurd e (ne_of_ids hnd (by omega) (by omega) (by omega))
    · exact absurd e h5
  · refine ⟨h2, by omega, by omega, fun j h1 h3 h4 h5 => ?_⟩
    obtain rfl : j = 2 * k + 1 := by omega
    rw [getB hs (by omega), getB hs (by omega)] at h
    exact h

set_option maxRecDepth 100000 in
set_option maxHeartbeats 4000000 in
theorem down_any (p g cap m n i : Nat) (clk : Int) (A0 : PA) (D : DataW Unit) (hi : i < n) (hn : n ≤ 100000) (hU : DnInv A0 i) (hX : Idx D A0) (hnd : (idsA A0).Nodup) (hwf : WfA A0) (w : World) (h : Whl w p g cap m n clk A0 D) :
    Calls Try.prog 27 #[.pointer (some ⟨p, 0, none⟩), .int .i64 (i : Int)] w fun e w' => e = .returned (.tuple #[]) ∧ DnEnd w w' p g cap m n clk A0 A0[i]! := by
  have eg : ∀ args w, (callFunc 32 args).run Try.prog w = .ok (.enter 32 args) w := enters_of Try.func32 (by kernel_rfl) rfl
  obtain ⟨x1, hx1⟩ := nm A0[i]!.1
  obtain ⟨x2, hx2⟩ := nm A0[i]!.2
  have ha : Hid (A0[i]! = (x1, x2)) := by show _ = _; rw [hx1.out, hx2.out]
  have hwx : (Lit.int .i64 x2).wf = true := by rw [hx2.out]; exact hwf.get (by rw [h.size]; exact hi)
  rw [ha.out]
  obtain ⟨bw, hbw⟩ := nm w.heap.size
  obtain ⟨w1, hw1⟩ := nm ((w.alloc (.cells #[.pointer (some ⟨p, 0, none⟩)] 23)).alloc (.cells #[.int .i64 (i : Int)] 3))
  have HW1 : Hid (Whl w1 p g cap m n clk A0 D) := by show Whl _ _ _ _ _ _ _ _ _; rw [hw1.out]; exact h.kept (S := fun _ => False) (((KeptS.refl _ _).alloc _).alloc _) id id id
  have HK1 : Hid (KeptS (GM g m) w w1) := by show KeptS _ _ _; rw [hw1.out]; exact ((KeptS.refl _ _).alloc _).alloc _
  have HBw : Hid (Blk w1 bw #[.pointer (some ⟨p, 0, none⟩)] 23) := by show Blk _ _ _ _; rw [hw1.out, hbw.out]; exact (Blk.new _ _ _).alloc _
  have HBi : Hid (Blk w1 (bw + 1) #[.int .i64 (i : Int)] 3) := by
    show Blk _ _ _ _
    rw [hw1.out, hbw.out]
    have := Blk.new (w.alloc (.cells #[.pointer (some ⟨p, 0, none⟩)] 23)) #[.int .i64 (i : Int)] 3
    simpa using this
  have hws : Hid (w1.heap.size = bw + 2) := by show _ = _; rw [hw1.out, hbw.out]; simp
  obtain ⟨e0, e1, _, _⟩ := HW1.out.row.cells i (by rw [HW1.out.size]; exact hi)
  rw [← hx1.out] at e0
  rw [← hx2.out] at e1
  have c0 : w1.cell? ⟨p, 0, none⟩ = some (.slice (some ⟨g, 0, none⟩) n cap) := HW1.out.blk.cell 0
  have i0 : w1.cell? ⟨bw + 1, 0, none⟩ = some (.int .i64 (i : Int)) := HBi.out.cell 0
  have p0 : w1.cell? ⟨bw, 0, none⟩ = some (.pointer (some ⟨p, 0, none⟩)) := HBw.out.cell 0
  have hi0 : (0 : Int) ≤ (i : Int) := by omega
  have hi1 : (i : Int) < (n : Int) := by omega
  have hcap : n ≤ cap ∧ cap ≤ maxLen := by have := h.row.cap; rwa [h.size] at this
  obtain ⟨hc1, hc2⟩ := hcap
  have hgm : g < bw ∧ m < bw ∧ p < bw := by rw [hbw.out]; exact ⟨h.row.lt, h.map.lt, h.blk.lt⟩
  have hsz : Hid (A0.size = n) := h.size
  have HND := Lib.hid hnd
  have HWF := Lib.hid hwf
  have HU := Lib.hid hU
  have HX := Lib.hid hX
  have HGM := Lib.hid hgm
  clear h hU hX hnd hwf hgm
  go_enter Try.func27, Try.ntmps27
  go_wp2_with fail
  rw [← hbw.out, ← hw1.out]
  have z1 := World.new_ne w1 _ p0
  have z2 := World.new_ne w1 _ i0
  have z3 := World.new_ne w1 _ c0
  have z4 := World.new_ne w1 _ e0
  have z5 := World.new_ne w1 _ e1
  go_region_held3 (fun w' => w'.cell? ⟨bw, 0, none⟩ = some (.pointer (some ⟨p, 0, none⟩)) ∧ w'.cell? ⟨bw + 1, 0, none⟩ = some (.int .i64 (i : Int)) ∧ w'.cell? ⟨p, 0, none⟩ = some (.slice (some ⟨g, 0, none⟩) n cap) ∧ w'.cell? ⟨g, i * 2, none⟩ = some (.int .i64 x1) ∧ w'.cell? ⟨g, i * 2 + 1, none⟩ = some (.int .i64 x2)) (go_keep) (fail)
  rename_i hHeld
  clear hHeld
  go_wp2_with fail
  obtain ⟨ba, hba⟩ := nm w1.heap.size
  obtain ⟨w2, hw2⟩ := nm (w1.alloc (.cells #[.int .i64 x1, .int .i64 x2] 28)).drew
  rw [← hba.out, ← hw2.out]
  have K12 : KeptS (fun _ => False) w1 w2 := by rw [hw2.out]; exact ((KeptS.refl _ _).alloc _).drew
  have HA2 : Hid (Blk w2 ba #[.int .i64 x1, .int .i64 x2] 28) := by show Blk _ _ _ _; rw [hw2.out, hba.out]; exact Blk.new _ _ _
  have HBw2 : Hid (Blk w2 bw #[.pointer (some ⟨p, 0, none⟩)] 23) := K12.blk HBw.out id
  have HBi2 : Hid (Blk w2 (bw + 1) #[.int .i64 (i : Int)] 3) := K12.blk HBi.out id
  have hba2 : ba = bw + 2 := by rw [hba.out, hws.out]
  have H2 : Hid (DnAt w w2 p g cap m n clk A0 (x1, x2) i A0 A0 D) := by
    refine ⟨HW1.out.kept K12 id id id, ?_, HU.out, HX.out.but (by rw [hsz.out]; exact hi), List.Perm.refl _, HK1.out.trans (K12.mono fun _ _ h => h.elim)⟩
    rw [← ha.out]
    apply Array.ext
    · simp
    · intro j hj1 hj2
      rw [Array.getElem_setIfInBounds]
      split
      · rename_i e; subst e; rw [getElem!_pos A0 i hj2]
      · rfl
  obtain ⟨hg1, hm1, hp1⟩ := HGM.out
  have hBA : Hid (ba ≠ g ∧ ba ≠ m ∧ bw ≠ g ∧ bw ≠ m ∧ bw + 1 ≠ g ∧ bw + 1 ≠ m ∧ p ≠ bw + 1 ∧ g ≠ bw + 1 ∧ m ≠ bw + 1) := by show _ ∧ _; omega
  have HB2 := Lib.hid hba2
  clear e0 e1 c0 i0 p0 z1 z2 z3 z4 z5 hw2 hba hba2 hg1 hm1 hp1 K12 hi0 hi1 HGM
  go_loopw [] (fun wr => ∃ (k : Nat) (A B : PA) (D' : DataW Unit), k < n ∧ DnAt w wr p g cap m n clk A0 (x1, x2) k A B D' ∧ Blk wr ba #[.int .i64 x1, .int .i64 x2] 28 ∧ Blk wr bw #[.pointer (some ⟨p, 0, none⟩)] 23 ∧ Blk wr (bw + 1) #[.int .i64 (k : Int)] 3) (fun wr => n - cellN wr (bw + 1))
  case atStart => exact ⟨i, A0, A0, D, hi, H2.out, HA2.out, HBw2.out, HBi2.out⟩
  case round =>
    obtain ⟨k, A, B, D', hk, hdn, hba, hbw', hbi⟩ := hrel
    have hAs : A.size = n := by rw [show A.size = A0.size from by simpa using hdn.perm.length_eq]; exact hsz.out
    have hD : Maps.size D' ≤ 1000000 := by have := hdn.idx.room; omega
    have hAN := Lib.hid ((ids_perm hdn.perm).nodup_iff.2 HND.out)
    have hfinish : (∀ j, 0 < j → j < A.size → (j - 1) / 2 = k → ltP A[k]! A[j]!) → ∀ w9, Below wr.heap.size wr w9 → Calls Try.prog 26 #[.pointer (some ⟨p, 0, none⟩), .int .i64 (k : Int), .agg #[.int .i64 x1, .int .i64 x2]] w9 fun e w' => e = .returned (.tuple #[]) ∧ DnEnd w w' p g cap m n clk A0 (x1, x2) := by
      intro h0 w9 hB9
      have hk9 : Whl w9 p g cap m n clk B D' := hdn.whl.kept (S := fun _ => False) (KeptS.ofBelow hB9) id id id
      refine (put_any p g cap m n k clk B D' x1 x2 hwx hk (by omega) hD w9 hk9).mono ?_
      rintro e w' ⟨rfl, h2, h3⟩
      have ek : A[k]! = (x1, x2) := getAt hdn.set_ (by rw [← size_of_set hdn.set_, hAs]; exact hk)
      refine ⟨rfl, A, D'.put (IL x2) (.lit (.int .i64 k)), k, hk, ?_, dn_done hdn.dn h0, ?_, ek, hdn.perm, (hdn.kept.trans (KeptS.ofBelow hB9)).trans h3⟩
      · rw [hdn.set_] at h2; exact h2
      · have := hdn.idx.put (by rw [hAs]; exact hk) hAN.out
        rw [ek] at this
        exact this
    have HF := Lib.hid hfinish
    have HDN := Lib.hid hdn
    have HAS := Lib.hid hAs
    have HBA := Lib.hid hba
    have HBW := Lib.hid hbw'
    have HBI := Lib.hid hbi
    have i0 : wr.cell? ⟨bw + 1, 0, none⟩ = some (.int .i64 (k : Int)) := hbi.cell 0
    have p0 : wr.cell? ⟨bw, 0, none⟩ = some (.pointer (some ⟨p, 0, none⟩)) := hbw'.cell 0
    have c0 : wr.cell? ⟨p, 0, none⟩ = some (.slice (some ⟨g, 0, none⟩) n cap) := hdn.whl.blk.cell 0
    have hw1 : IntKind.i64.wrap (2 * (k : Int)) = 2 * (k : Int) := IntWalk.i64_in _ (by omega)
    have hw2 : IntKind.i64.wrap (2 * (k : Int) + 1) = 2 * (k : Int) + 1 := IntWalk.i64_in _ (by omega)
    clear hfinish hdn hAs hba hbw' hbi
    by_cases hch : 2 * k + 1 < n
    · have hd : decide (2 * (k : Int) + 1 < (n : Int)) = true := decide_eq_true (by omega)
      go_wp2_with fail
      go_quiet (fail)
      clear hw1 hw2 hd i0 p0 c0
      obtain ⟨w3, hw3⟩ := nm (wr.drewN nq)
      rw [← hw3.out]
      have HB3 : Hid (Below wr.heap.size wr w3) := by show Below _ _ _; rw [hw3.out]; exact below_drewN (Below.refl _ _) _
      have hwh3 : Whl w3 p g cap m n clk B D' := HDN.out.whl.kept (S := fun _ => False) (KeptS.ofBelow HB3.out) id id id
      have hcall := least_any p g cap m n k (bw + 1) bw clk B D' hch hn w3 hwh3 (HBI.out.below HB3.out HBI.out.lt) (HBW.out.below HB3.out HBW.out.lt)
      have HC := Lib.hid hcall
      clear hwh3 hcall hw3
      go_wp2_with fail
      refine HC.out.mono ?_; rintro e w4 ⟨⟨c, rfl, hL⟩, hB4⟩
      have hB5 := HB3.out.trans (hB4.mono HB3.out.size)
      obtain ⟨hcn, hc0, hcp, hcl⟩ := lst_least hL HDN.out.set_ HAS.out hch hAN.out
      have HCL := Lib.hid hcl
      have HCP := Lib.hid hcp
      have hck : c ≠ k := by omega
      have hkc : k < c := by omega
      have hwh4 : Whl w4 p g cap m n clk B D' := HDN.out.whl.kept (S := fun _ => False) (KeptS.ofBelow hB5) id id id
      obtain ⟨e0, e1, _, _⟩ := hwh4.row.cells c (by rw [hwh4.size]; exact hcn)
      have hBc : B[c]! = A[c]! := getB HDN.out.set_ hck
      rw [hBc] at e0 e1
      obtain ⟨y1, hy1⟩ := nm A[c]!.1
      obtain ⟨y2, hy2⟩ := nm A[c]!.2
      have hy : Hid (A[c]! = (y1, y2)) := by show _ = _; rw [hy1.out, hy2.out]
      rw [← hy1.out] at e0
      rw [← hy2.out] at e1
      have hAk : Hid (A[k]! = (x1, x2)) := getAt HDN.out.set_ (by rw [← size_of_set HDN.out.set_, HAS.out]; exact hk)
      have f0 : w4.cell? ⟨ba, 0, none⟩ = some (.int .i64 x1) := (HBA.out.below hB5 HBA.out.lt).cell 0
      have f1 : w4.cell? ⟨ba, 1, none⟩ = some (.int .i64 x2) := (HBA.out.below hB5 HBA.out.lt).cell 1
      have f2 : w4.cell? ⟨bw, 0, none⟩ = some (.pointer (some ⟨p, 0, none⟩)) := (HBW.out.below hB5 HBW.out.lt).cell 0
      have f3 : w4.cell? ⟨p, 0, none⟩ = some (.slice (some ⟨g, 0, none⟩) n cap) := hwh4.blk.cell 0
      have hc00 : (0 : Int) ≤ (c : Int) := by omega
      have hc01 : (c : Int) < (n : Int) := by omega
      have HB5 := Lib.hid hB5
      have hCK := Lib.hid hck
      clear hL hB4 hcl hcp hwh4 hBc hB5 hck
      go_wp2_with fail
      refine wp_region_still_tail 8 (by kernel_rfl) (by kernel_rfl) ?_
      simp only [List.take_succ_cons, List.take_zero, List.drop_succ_cons, List.drop_zero]
      change wpStill _ _ (World.drew _) (fun a' => wpList _ _ _ _ a' (World.drew _)) _ _
      repeat still_step
      refine wpStill_nil ?_
      clear f0 f1 f2 f3 e0 e1
      by_cases hlt : ltP (x1, x2) (y1, y2)
      · go_wp2_with fail
        refine (cmp_lt x1 x2 y1 y2 hlt _).mono ?_; rintro e w5 ⟨⟨C, rfl, hC⟩, hB6⟩
        have hCd : decide (C < 0) = true := decide_eq_true hC
        have hB7 : Below wr.heap.size wr w5 := HB5.out.trans ((⟨hB6.os, hB6.tape, hB6.output, hB6.size, hB6.block⟩ : Below w4.heap.size w4 w5).mono HB5.out.size)
        have hF := HF.out (fun j h1 h2 h3 => by
          rw [hAk.out]
          by_cases ej : j = c
          · subst ej; rw [hy.out]; exact hlt
          · have := HCL.out j h1 h2 h3 ej
            rw [hy.out] at this
            exact ltP_trans hlt this) w5 hB7
        have f0 : w5.cell? ⟨ba, 0, none⟩ = some (.int .i64 x1) := (HBA.out.below hB7 HBA.out.lt).cell 0
        have f1 : w5.cell? ⟨ba, 1, none⟩ = some (.int .i64 x2) := (HBA.out.below hB7 HBA.out.lt).cell 1
        have f2 : w5.cell? ⟨bw + 1, 0, none⟩ = some (.int .i64 (k : Int)) := (HBI.out.below hB7 HBI.out.lt).cell 0
        have f3 : w5.cell? ⟨bw, 0, none⟩ = some (.pointer (some ⟨p, 0, none⟩)) := (HBW.out.below hB7 HBW.out.lt).cell 0
        clear hlt hB6 hB7
        go_wp2_with fail
        refine hF.mono ?_; rintro e w9 ⟨rfl, hE⟩
        go_wp2_with fail
        go_end0
        exact ⟨rfl, hE⟩
      · go_wp2_with fail
        refine (cmp_ge x1 x2 y1 y2 hlt _).mono ?_; rintro e w5 ⟨⟨C, rfl, hC⟩, hB6⟩
        have hCd : decide (C < 0) = false := decide_eq_false hC
        have hB7 : Below wr.heap.size wr w5 := HB5.out.trans ((⟨hB6.os, hB6.tape, hB6.output, hB6.size, hB6.block⟩ : Below w4.heap.size w4 w5).mono HB5.out.size)
        have hwh5 : Whl w5 p g cap m n clk B D' := HDN.out.whl.kept (S := fun _ => False) (KeptS.ofBelow hB7) id id id
        have f0 : w5.cell? ⟨bw + 1, 0, none⟩ = some (.int .i64 (k : Int)) := (HBI.out.below hB7 HBI.out.lt).cell 0
        have f1 : w5.cell? ⟨bw, 0, none⟩ = some (.pointer (some ⟨p, 0, none⟩)) := (HBW.out.below hB7 HBW.out.lt).cell 0
        have f2 : w5.cell? ⟨p, 0, none⟩ = some (.slice (some ⟨g, 0, none⟩) n cap) := hwh5.blk.cell 0
        obtain ⟨e0, e1, _, _⟩ := hwh5.row.cells c (by rw [hwh5.size]; exact hcn)
        rw [getB HDN.out.set_ hCK.out, hy.out] at e0 e1
        have hwy : (Lit.int .i64 y2).wf = true := by rw [hy2.out]; exact (HWF.out.perm HDN.out.perm).get (by rw [HAS.out]; omega)
        have hput : Hid (Calls Try.prog 26 #[.pointer (some ⟨p, 0, none⟩), .int .i64 (k : Int), .agg #[.int .i64 y1, .int .i64 y2]] w5.drew fun e w' => e = .returned (.tuple #[]) ∧ Whl w' p g cap m n clk (B.setIfInBounds k (y1, y2)) (D'.put (IL y2) (.lit (.int .i64 k))) ∧ KeptS (GM g m) w5.drew w') :=
          put_any p g cap m n k clk B D' y1 y2 hwy hk (by omega) hD w5.drew (hwh5.kept (S := fun _ => False) (KeptS.refl _ _).drew id id id)
        have HDS : Hid (DnInv (swp A k c) c) := dn_step HDN.out.dn (by rw [HAS.out]; exact hcn) hc0 HCP.out HCL.out
        have HIS : Hid (IdxBut (D'.put (IL y2) (.lit (.int .i64 k))) (swp A k c) c) := by
          have := HDN.out.idx.step (i := k) (k := c) (by rw [HAS.out]; exact hk) (by rw [HAS.out]; exact hcn) hCK.out hAN.out
          rwa [hy.out] at this
        have HSS : Hid ((B.setIfInBounds k (y1, y2)).setIfInBounds c (x1, x2) = swp A k c) := by
          have := set_swp HDN.out.set_ (by rw [← size_of_set HDN.out.set_, HAS.out]; exact hk) (o := c) hCK.out
          rwa [hy.out] at this
        have HPS : Hid ((swp A k c).toList.Perm A0.toList) := (swp_perm A k c (by rw [HAS.out]; exact hk) (by rw [HAS.out]; exact hcn)).trans HDN.out.perm
        have HA5 : Hid (Blk w5 ba #[.int .i64 x1, .int .i64 x2] 28) := HBA.out.below hB7 HBA.out.lt
        have HW5 : Hid (Blk w5 bw #[.pointer (some ⟨p, 0, none⟩)] 23) := HBW.out.below hB7 HBW.out.lt
        have HI5 : Hid (Blk w5 (bw + 1) #[.int .i64 (k : Int)] 3) := HBI.out.below hB7 HBI.out.lt
        have HK5 : Hid (KeptS (GM g m) w w5) := HDN.out.kept.trans (KeptS.ofBelow hB7)
        clear hlt hB6 hB7 hwh5
        go_wp2_with fail
        refine wp_region_still_tail 9 (by kernel_rfl) (by kernel_rfl) ?_
        simp only [List.take_succ_cons, List.take_zero, List.drop_succ_cons, List.drop_zero]
        change wpStill _ _ (World.drew _) (fun a' => wpList _ _ _ _ a' (World.drew _)) _ _
        repeat still_step
        refine wpStill_nil ?_
        clear f0 f1 f2 e0 e1
        go_wp2_with fail
        refine hput.out.mono ?_; rintro e w6 ⟨rfl, h6, k6⟩
        have kk : KeptS (GM g m) w5 w6 := ((KeptS.refl _ w5).drew).trans k6
        obtain ⟨n1, n2, n3, n4, n5, n6, n7, n8, n9⟩ := hBA.out
        have HA6 : Hid (Blk w6 ba #[.int .i64 x1, .int .i64 x2] 28) := kk.blk HA5.out (fun e => e.elim n1 n2)
        have HW6 : Hid (Blk w6 bw #[.pointer (some ⟨p, 0, none⟩)] 23) := kk.blk HW5.out (fun e => e.elim n3 n4)
        have HI6 : Hid (Blk w6 (bw + 1) #[.int .i64 (k : Int)] 3) := kk.blk HI5.out (fun e => e.elim n5 n6)
        have HH6 := Lib.hid h6
        have HK6 : Hid (KeptS (GM g m) w w6) := HK5.out.trans kk
        have f0 : w6.cell? ⟨bw + 1, 0, none⟩ = some (.int .i64 (k : Int)) := HI6.out.cell 0
        have f1 : w6.frozen? ⟨bw + 1, 0, none⟩ = false := HI6.out.free 0
        clear h6 k6 kk n1 n2 n3 n4 n5 n6 n7 n8 n9
        go_wp2_with fail
        obtain ⟨n1, n2, n3, n4, n5, n6, n7, n8, n9⟩ := hBA.out
        have hba2 := HB2.out
        have h7 : Whl (w6.setCell ⟨bw + 1, 0, none⟩ (.int .i64 (c : Int))) p g cap m n clk (B.setIfInBounds k (y1, y2)) (D'.put (IL y2) (.lit (.int .i64 k))) :=
          HH6.out.kept (S := fun b => b = bw + 1) ((KeptS.refl (fun b => b = bw + 1) w6).set ⟨bw + 1, 0, none⟩ rfl _) n7 n8 n9
        have hdn7 : DnAt w (w6.setCell ⟨bw + 1, 0, none⟩ (.int .i64 (c : Int))) p g cap m n clk A0 (x1, x2) c (swp A k c) (B.setIfInBounds k (y1, y2)) (D'.put (IL y2) (.lit (.int .i64 k))) :=
          ⟨h7, HSS.out, HDS.out, HIS.out, HPS.out, HK6.out.setNew (by show w.heap.size ≤ bw + 1; have := hbw.out; omega) _⟩
        have ha7 := HA6.out.setOther (a := ⟨bw + 1, 0, none⟩) (by show ba ≠ bw + 1; omega) (.int .i64 (c : Int))
        have hw7 := HW6.out.setOther (a := ⟨bw + 1, 0, none⟩) (by show bw ≠ bw + 1; omega) (.int .i64 (c : Int))
        have hi7 : Blk (w6.setCell ⟨bw + 1, 0, none⟩ (.int .i64 (c : Int))) (bw + 1) #[.int .i64 (c : Int)] 3 := HI6.out.set 0 _
        have hmeas : Hid (n - cellN (w6.setCell ⟨bw + 1, 0, none⟩ (.int .i64 (c : Int))) (bw + 1) < n - cellN wr (bw + 1)) := by
          show _ < _
          rw [cellN_blk hi7, cellN_blk HBI.out]; omega
        clear n1 n2 n3 n4 n5 n6 n7 n8 n9 hba2 h7
        exact ⟨⟨c, _, _, _, hcn, hdn7, ha7, hw7, hi7⟩, hmeas.out⟩
    · have hd : decide (2 * (k : Int) + 1 < (n : Int)) = false := decide_eq_false (by omega)
      have HFI := HF.out (fun j h1 h2 h3 => by rw [HAS.out] at h2; omega)
      go_wp2_with fail
      go_quiet (fail)
      clear hw1 hw2 hd i0 p0 c0
      have HB3 : Below wr.heap.size wr (wr.drewN nq) := below_drewN (Below.refl _ _) _
      obtain ⟨w3, hw3⟩ := nm (wr.drewN nq)
      rw [← hw3.out] at HB3
      have hF := HFI w3 HB3
      rw [← hw3.out]
      have f0 : w3.cell? ⟨ba, 0, none⟩ = some (.int .i64 x1) := (HBA.out.below HB3 HBA.out.lt).cell 0
      have f1 : w3.cell? ⟨ba, 1, none⟩ = some (.int .i64 x2) := (HBA.out.below HB3 HBA.out.lt).cell 1
      have f2 : w3.cell? ⟨bw + 1, 0, none⟩ = some (.int .i64 (k : Int)) := (HBI.out.below HB3 HBI.out.lt).cell 0
      have f3 : w3.cell? ⟨bw, 0, none⟩ = some (.pointer (some ⟨p, 0, none⟩)) := (HBW.out.below HB3 HBW.out.lt).cell 0
      clear HB3 HFI hw3
      go_wp2_with fail
      refine hF.mono ?_; rintro e w9 ⟨rfl, hE⟩
      go_wp2_with fail
      go_end0
      exact ⟨rfl, hE⟩
end Go.Proofs.Ytipnfalmnoieiaa
