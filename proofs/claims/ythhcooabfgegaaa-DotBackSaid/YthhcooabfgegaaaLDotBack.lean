/- DotBack: for every row of names and any bytes behind the law returns true. -/
import Derived.Test.YthhcooabfgegaaaDotAwake
import Derived.Test.YthhcooabfgegaaaDotReadRow
import Derived.Test.YthhcooabfgegaaaLaw
import Derived.Deep.CutBlock
import Derived.Deep.DeepCutAuto
import Derived.Deep.RegionHeld3
import Derived.Laws.Pointers
import Derived.Outline
namespace Go.Proofs.Ythhcooabfgegaaa
open Go.RowKit Go.Shelf Go.Lib Go.Sort

theorem Rd.num_back (n : Nat) (hn : n < 18446744073709551616) (t : List UInt8) : (Rd.mk (ofL (Pl.num n ++ t)) false).num = (⟨ofL t, false⟩, n) := by
  rw [Rd.num, if_neg (by simp)]
  show (match Pl.rdNum (Pl.num n ++ t) with | some (n, l) => ((⟨ofL l, false⟩ : Rd), n) | none => _) = _
  rw [Pl.rd_num n hn t]
theorem Rd.int_back (n : Nat) (most : Int) (hn : n < 18446744073709551616) (h : (n : Int) ≤ most) (t : List UInt8) : (Rd.mk (ofL (Pl.num n ++ t)) false).int most = (⟨ofL t, false⟩, n) := by
  rw [Rd.int, Rd.num_back n hn t, if_neg (by simp only; omega)]
/-- A name that may be. -/
def OkP (p : Int × Int) : Prop := 1 ≤ p.1 ∧ p.1 ≤ 1099511627776 ∧ 1 ≤ p.2 ∧ p.2 ≤ 1099511627776
theorem OkP.ok {p : Int × Int} (h : OkP p) : okD p.1 p.2 = true := decide_eq_true h
theorem OkP.inD {p : Int × Int} (h : OkP p) : InD p := by unfold OkP at h; exact ⟨by omega, by omega⟩
theorem Rd.dot_back (p : Int × Int) (h : OkP p) (t : List UInt8) : (Rd.mk (ofL (bytesD p ++ t)) false).dot = (⟨ofL t, false⟩, p) := by
  obtain ⟨x, y⟩ := p
  have h' := h
  unfold OkP at h'
  simp only at h'
  have e1 := Rd.int_back x.toNat 1099511627776 (by omega) (by omega) (Pl.num y.toNat ++ t)
  have e2 := Rd.int_back y.toNat 1099511627776 (by omega) (by omega) t
  have e0 : bytesD (x, y) ++ t = Pl.num x.toNat ++ (Pl.num y.toNat ++ t) := by simp [bytesD]
  have hx : ((x.toNat : Nat) : Int) = x := by omega
  have hy : ((y.toNat : Nat) : Int) = y := by omega
  have hok : okD x y = true := h.ok
  rw [e0, Rd.dot, e1]
  simp only
  rw [e2]
  simp only
  rw [hx, hy, if_neg (by rw [hok]; simp)]
theorem Rd.dots_back : ∀ (ps : List (Int × Int)) (t : List UInt8), (∀ p ∈ ps, OkP p) → Rd.dots ps.length (Rd.mk (ofL (namesD ps ++ t)) false) = (⟨ofL t, false⟩, some ps)
  | [], t, _ => rfl
  | p :: ps, t, h => by
    have e : namesD (p :: ps) ++ t = bytesD p ++ (namesD ps ++ t) := by simp [namesD]
    rw [List.length_cons, Rd.dots, e, Rd.dot_back p (h p (by simp))]
    simp only [Bool.false_eq_true, if_false]
    rw [Rd.dots_back ps t fun q hq => h q (by simp [hq])]
    rfl
theorem Rd.row_back (ps : List (Int × Int)) (t : List UInt8) (most : Int) (hl : (ps.length : Int) ≤ most) (h63 : ps.length < 18446744073709551616) (ha : Asc ps) (h : ∀ p ∈ ps, OkP p) : (Rd.mk (ofL (rowD ps ++ t)) false).row most = (⟨ofL t, false⟩, ps) := by
  have e := Rd.int_back ps.length most h63 hl (namesD ps ++ t)
  have e0 : rowD ps ++ t = Pl.num ps.length ++ (namesD ps ++ t) := by simp [rowD]
  rw [e0, Rd.row, e]
  simp only
  rw [Rd.dots_back ps t h]
  simp [ha]

/-- What is left of a reader, one torn or not. -/
theorem rest_of {r r' : Rd} (h1 : r'.torn = r.torn) (h2 : r.torn = false → r' = r) : r'.rest = r.rest := by
  cases h : r.torn with
  | false => rw [h2 h]
  | true => unfold Rd.rest; rw [h1, h, if_pos rfl, if_pos rfl]

theorem read2_any (s : ByteArray) (w : World) :
    Calls Try.prog 29 #[.string s] w fun e w' => ∃ b, e = .returned (.pointer (some ⟨b, 0, none⟩)) ∧ w.heap.size ≤ b ∧ IsRd w' b ⟨s, false⟩ ∧ Below w.heap.size w w' :=
  (read_any s w).mono fun _ _ ⟨he, hw⟩ => ⟨w.heap.size, he, Nat.le_refl _, by rw [hw]; exact Blk.new _ _ _, by rw [hw]; exact bOld _⟩
/-- A reader of the program's in block b: is it torn, and what is left. -/
def RdAt (w : World) (b : Nat) (T : Bool) (X : ByteArray) : Prop := ∃ r : Rd, IsRd w b r ∧ r.torn = T ∧ r.rest = X
theorem RdAt.keptBy {w w' : World} {b c : Nat} {T : Bool} {X : ByteArray} (h : RdAt w b T X) (hk : Kept c w w') (hne : b ≠ c) : RdAt w' b T X := by
  obtain ⟨r, h1, h2⟩ := h; exact ⟨r, hk.blk h1 hne, h2⟩
theorem RdAt.below {w w' : World} {b : Nat} {T : Bool} {X : ByteArray} (h : RdAt w b T X) (hb : Below w.heap.size w w') : RdAt w' b T X := by
  obtain ⟨r, h1, h2⟩ := h; exact ⟨r, Blk.below h1 hb h1.lt, h2⟩
theorem SlP.keptBy {w w' : World} {ao : Option Addr} {ps : List (Int × Int)} {c : Nat} (h : SlP w ao ps) (hk : Kept c w w') (hne : ∀ a, ao = some a → a.block ≠ c) : SlP w' ao ps := by
  intro k hk'
  obtain ⟨b, off, h1, h2, h3⟩ := h k hk'
  refine ⟨b, off, h1, Nat.lt_of_lt_of_le h2 hk.size, fun j p hj => ?_⟩
  have e : ∀ o, w'.cell? ⟨b, o, none⟩ = w.cell? ⟨b, o, none⟩ := fun o => by simp only [World.cell?, hk.block b h2 (hne _ h1)]
  rw [e, e]
  exact h3 j p hj

theorem sort_at (ao : Option Addr) (ps qs : List (Int × Int)) (n m cap : Nat) (hn : ps.length = n) (hq : Hid (sortD ps = qs)) (hm' : Hid (qs.length = m)) (w : World) (hs : SlP w ao ps) (hm : n ≤ 1000000) :
    Calls Try.prog 12 #[.slice ao n cap] w fun e w' => ∃ ao' cap', e = .returned (.slice ao' m cap') ∧ m ≤ cap' ∧ SlP w' ao' qs ∧ (ao' = none → m = 0) ∧ Below w.heap.size w w' := by
  refine (sort_any ao ps n cap hn w hs (by omega) (by rintro rfl; rw [← hn]; exact hs.none_len)).mono ?_
  rintro e w' ⟨a, c, rfl, h1, h2, _, h3, h4⟩
  rw [hq.out, hm'.out] at *
  exact ⟨a, c, rfl, h1, h2, h3, h4⟩

theorem SlP.keptNew {w0 w w' : World} {ao : Option Addr} {ps : List (Int × Int)} {c : Nat} (h : SlP w0 ao ps) (hB : Below w0.heap.size w0 w) (hk : Kept c w w') (hc : w0.heap.size ≤ c) : SlP w' ao ps := by
  intro k hk'
  obtain ⟨b, off, h1, h2, h3⟩ := h k hk'
  have hs := hB.size
  refine ⟨b, off, h1, Nat.lt_of_lt_of_le h2 (Nat.le_trans hs hk.size), fun j p hj => ?_⟩
  have e : ∀ o, w'.cell? ⟨b, o, none⟩ = w0.cell? ⟨b, o, none⟩ := fun o => by simp only [World.cell?, hk.block b (by omega) (by omega), hB.block b h2]
  rw [e, e]
  exact h3 j p hj
theorem fine_r (b : Nat) (w : World) (X : ByteArray) (h : RdAt w b false X) :
    Calls Try.prog 32 #[.pointer (some ⟨b, 0, none⟩)] w fun e w' => e = .returned (.bool true) ∧ w = w' := by
  obtain ⟨r, h1, h2, _⟩ := h
  have := fine_any b r w h1
  rwa [h2] at this
theorem left_r (b : Nat) (w : World) (X : ByteArray) (h : RdAt w b false X) :
    Calls Try.prog 33 #[.pointer (some ⟨b, 0, none⟩)] w fun e w' => e = .returned (.string X) ∧ w = w' := by
  obtain ⟨r, h1, _, h2⟩ := h
  rw [← h2]
  exact rleft_any b r w h1
theorem readrow_is (b : Nat) (Z R : ByteArray) (ps : List (Int × Int)) (K : Nat) (hK : Hid (K = ps.length)) (h30 : K ≤ 30) (ha : Hid (Asc ps)) (hok : Hid (∀ p ∈ ps, OkP p)) (hZ : Hid (Z = ofL (rowD ps) ++ R)) (hs : Z.size ≤ 1000000) (w : World) (hr : IsRd w b ⟨Z, false⟩) :
    Calls Try.prog 35 #[.pointer (some ⟨b, 0, none⟩), .int .i64 30] w fun e w' => ∃ ao cap, e = .returned (.slice ao K cap) ∧ (SlP w' ao ps ∧ ∀ a, ao = some a → w.heap.size ≤ a.block) ∧ RdAt w' b false R ∧ Kept b w w' := by
  refine (readrow_any b ⟨Z, false⟩ 30 w hr hs (by decide)).mono ?_
  have e0 : (Rd.mk Z false).row 30 = (⟨R, false⟩, ps) := by
    have := Rd.row_back ps (bl R) 30 (by rw [← hK.out]; omega) (by rw [← hK.out]; omega) ha.out hok.out
    rw [← ofL_append, ofL_bl, ← hZ.out] at this
    exact this
  rintro e w' ⟨ao, cap, rfl, hsl, ⟨r', h1, h3, h4⟩, hk⟩
  rw [e0] at hsl h3 h4 ⊢
  exact ⟨ao, cap, by rw [hK.out], hsl, ⟨r', h1, h3, by rw [h4 rfl]; rfl⟩, hk⟩
theorem rdot_is (b : Nat) (Z R : ByteArray) (x y : Int) (hok : Hid (OkP (x, y))) (hZ : Hid (Z = ofL (bytesD (x, y)) ++ R)) (hs : Z.size ≤ 1000000) (w : World) (hr : IsRd w b ⟨Z, false⟩) :
    Calls Try.prog 30 #[.pointer (some ⟨b, 0, none⟩)] w fun e w' => e = .returned (.agg #[.int .i64 x, .int .i64 y]) ∧ RdAt w' b false R ∧ Kept b w w' := by
  refine (rdot_any b ⟨Z, false⟩ w hr hs).mono ?_
  have e0 : (Rd.mk Z false).dot = (⟨R, false⟩, (x, y)) := by
    have := Rd.dot_back (x, y) hok.out (bl R)
    rw [← ofL_append, ofL_bl, ← hZ.out] at this
    exact this
  rintro e w' ⟨rfl, ⟨r', h1, h3, h4, _⟩, hk⟩
  rw [e0] at h3 h4 ⊢
  exact ⟨rfl, ⟨r', h1, h3, by rw [h4 rfl]; rfl⟩, hk⟩

/-- A name that may be, of any one. -/
def and40 (p : Int × Int) : Int × Int := (1 + bits .and .i64 p.1 1099511627775, 1 + bits .and .i64 p.2 1099511627775)
theorem and40_ok (p : Int × Int) : OkP (and40 p) := by
  obtain ⟨K, h1, h2⟩ := and_mask p.1 1099511627775 (by decide)
  obtain ⟨L, h3, h4⟩ := and_mask p.2 1099511627775 (by decide)
  rw [show ((1099511627775 : Nat) : Int) = 1099511627775 from rfl] at h2 h4
  unfold OkP and40
  simp only
  omega

set_option maxRecDepth 100000 in
set_option maxHeartbeats 8000000 in
theorem dotBack_walk (ao : Option Addr) (l : List (Int × Int)) (n cap : Nat) (hn : l.length = n) (hm : n ≤ 9223372036854775807) (r0 : ByteArray) (w : World) (hs : SlP w ao l) :
    Calls Try.prog 8 #[.slice ao n cap, .string r0] w fun e w' => e = .returned (.bool true) ∧ Below w.heap.size w w' := by
  obtain ⟨i0, hi, hz0, hz1, hz2⟩ := info_parts infoD
  have HS := Lib.hid hs
  have HN := Lib.hid hn
  obtain ⟨M, hM⟩ := nm ((l.take 30).map and40)
  obtain ⟨N, hN⟩ := nm M.length
  have hNl : N = min 30 n := by rw [hN.out, hM.out, List.length_map, List.length_take, hn]
  have HNL := Lib.hid hNl
  have hN30 : N ≤ 30 := by omega
  have hcut := cutB_cases r0 20
  obtain ⟨R, hR⟩ := nm (cutB r0 20)
  have hR20 : R.size ≤ 20 := by rw [hR.out]; exact cutB_le _ _
  rw [← hR.out] at hcut
  have HCUT := Lib.hid hcut
  clear hs hn hNl hcut
  go_enter Try.func8, Try.ntmps8
  go_wp2_with fail
  refine (awake_any _).mono ?_; rintro e w1 ⟨rfl, hB0⟩
  have HB0 := Lib.hid hB0
  clear hB0
  go_upto_block 0 with fail
  go_cut [6] (fun v wx => OwnP wx w1.heap.size 23 v M ∧ Below w1.heap.size w1 wx)
  case first =>
    go_wp2_with fail
    go_loopw [6, 7] (fun v i wr => ∃ k : Nat, k ≤ n ∧ k ≤ 30 ∧ i = .int .i64 (k : Int) ∧ OwnP wr w1.heap.size 23 v ((l.take k).map and40) ∧ Below w1.heap.size w1 wr) (fun _ i _ => 30 - (intOf i).toNat)
    case atStart => exact ⟨0, by omega, by omega, rfl, OwnP.nil _ _ _, Below.refl _ _⟩
    case round =>
      obtain ⟨k, hk, hk30, rfl, hown, hB⟩ := hrel
      by_cases hlt : k < n ∧ k < 30
      · obtain ⟨hlt, hlt30⟩ := hlt
        obtain ⟨b, off, u, v, rfl, hbl, c0, c1, hpk⟩ := HS.out.get k (by rw [HN.out]; exact hlt)
        have hB2 := bNext HB0.out hB
        have d0 : wr.cell? ⟨b, off + k * 2, none⟩ = some (.int .i64 u) := (hB2.cell (p := ⟨b, off + k * 2, none⟩) hbl).trans c0
        have d1 : wr.cell? ⟨b, off + k * 2 + 1, none⟩ = some (.int .i64 v) := (hB2.cell (p := ⟨b, off + k * 2 + 1, none⟩) hbl).trans c1
        clear c0 c1 hB2
        obtain ⟨K1, hK1, e1⟩ := and_mask u 1099511627775 (by decide)
        obtain ⟨K2, hK2, e2⟩ := and_mask v 1099511627775 (by decide)
        rw [show ((1099511627775 : Nat) : Int) = 1099511627775 from rfl] at e1 e2
        obtain ⟨z, hz⟩ := nm (((1 + K1 : Nat)) : Int)
        obtain ⟨y, hy⟩ := nm (((1 + K2 : Nat)) : Int)
        have hN2 : Hid ((l.take (k + 1)).map and40 = (l.take k).map and40 ++ [(z, y)]) := by
          show _ = _
          rw [take_snocP hpk.out, List.map_append, hz.out, hy.out]
          simp only [List.map_cons, List.map_nil, and40, e1, e2]
          congr 3
        obtain ⟨L, hL⟩ := nm ((l.take k).map and40)
        have hLl : L.length ≤ k := by rw [hL.out, List.length_map, List.length_take]; omega
        rw [← hL.out] at hown hN2
        have hs1 : IntKind.i64.wrap (1 + (K1 : Int)) = z := by rw [IntWalk.i64_in _ (by omega), hz.out]; omega
        have hs2 : IntKind.i64.wrap (1 + (K2 : Int)) = y := by rw [IntWalk.i64_in _ (by omega), hy.out]; omega
        go_wp2_with fail
        have hks := hB.size
        have hne : ∀ kk, kk < w1.heap.size → Value.ownBlock _ ≠ some kk := fun kk hk e => absurd (World.ownsRow.lt hown kk e).1 (Nat.not_le.2 hk)
        have hneb := hne b (Nat.lt_of_lt_of_le hbl HB0.out.size)
        have hblr : b < wr.heap.size := by have := HB0.out.size; omega
        have hki0 : (0 : Int) ≤ (k : Int) := by omega
        have hki1 : (k : Int) < (n : Int) := by omega
        go_region_held3 (fun w' => w'.cell? ⟨b, off + k * 2, none⟩ = some (.int .i64 u) ∧ w'.cell? ⟨b, off + k * 2 + 1, none⟩ = some (.int .i64 v))
          (first
            | go_keep
            | (go_split_ands
               refine ⟨?_, ?_⟩
               · (rw [hgrow.cell_far _ (by simp; omega) (Ne.symm hneb)]; assumption)
               · (rw [hgrow.cell_far _ (by simp; omega) (Ne.symm hneb)]; assumption)))
          ((refine step_append_lies _ (by rfl) _ _ _ (by rfl) w1.heap.size 23 i0 _ 2 16 Try.underlying27 hi hz0 hz1 hz2 rfl (by decide) _ L.length (flatD L) (by rfl) ((World.ownsRow.alloc hown _).drew)
              ⟨wr.heap.size, 0, none⟩ 1 1 [.int .i64 z, .int .i64 y] (by rfl) (by rfl) (World.news_of_block (cs := #[.int .i64 z, .int .i64 y]) (t := 23) (fr := (0, 0)) (heap_alloc_new wr _)) (by simp [Value.oneCell'])
              (by decide) (by unfold maxLen; omega) (by omega) (by simp; omega) (wr.heap.size + 1) (by simp) ?_; intro gg cap2 w2 hown2 hgrow hat hlt2))
        have hB2 : Below w1.heap.size w1 w2 := (below_drewN (bNew hB _) 1).grown hgrow (by simp; omega) (fun kk h => (World.ownsRow.lt hown kk h).1)
        replace hown2 : OwnP w2 w1.heap.size 23 (.slice (some ⟨gg, 0, none⟩) (L.length + 1) cap2) ((l.take (k + 1)).map and40) := by
          rw [hN2.out]
          show w2.ownsRow _ _ _ _ _ _
          rw [List.length_append, flatD_append]
          exact hown2
        clear hown hgrow hB d0 d1 e1 e2 hs1 hs2 hne hneb
        go_wp2_with fail
        go_roundw
        case rel => exact ⟨k + 1, by omega, by omega, by go_num, hown2, hB2⟩
        case measure => simp [intOf]; omega
      · have e : (l.take k).map and40 = M := by
          rw [hM.out]
          rcases Nat.lt_or_ge k 30 with h | h
          · rw [List.take_of_length_le (by rw [HN.out]; omega), List.take_of_length_le (by rw [HN.out]; omega)]
          · rw [show k = 30 from by omega]
        rw [e] at hown
        clear e
        go_wp2_with fail
        all_goals
          go_meet
          exact ⟨hown, hB⟩
  obtain ⟨hown, hB⟩ := hcut
  obtain ⟨am, cm, rfl, hcm, hcmm, hslm, _⟩ := hown.sl
  rw [← hN.out] at hcm ⊢
  have hBw := Lib.hid (bNext HB0.out hB)
  have HSM := Lib.hid hslm
  clear hown hB hslm HB0
  go_upto_if 45 with fail
  go_cut [1] (fun s1 wx => s1 = .string R ∧ wc = wx)
  case first =>
    rcases HCUT.out with ⟨hlt, hce⟩ | ⟨hlt, hce⟩
    · go_wp2_with fail
      go_meet
      exact ⟨rfl, rfl⟩
    · have HCE := Lib.hid hce
      clear hce
      go_wp2_with fail
      go_meet
      exact ⟨by rw [HCE.out], rfl⟩
  obtain ⟨rfl, rfl⟩ := hcut
  obtain ⟨S, hS⟩ := nm (sortD M)
  obtain ⟨K, hK⟩ := nm S.length
  have hKN : K ≤ N := by rw [hK.out, hS.out, hN.out]; exact sortD_length M
  have HA : Hid (Asc S) := by show Asc S; rw [hS.out]; exact asc_sortD M
  have HMO : Hid (∀ p ∈ M, OkP p) := by
    intro p hp
    rw [hM.out] at hp
    obtain ⟨q, _, rfl⟩ := List.mem_map.1 hp
    exact and40_ok q
  have HSO : Hid (∀ p ∈ S, OkP p) := by
    intro p hp
    rw [hS.out, mem_sortD] at hp
    exact HMO.out p hp
  have HSI : Hid (∀ p ∈ S, InD p) := fun p hp => (HSO.out p hp).inD
  obtain ⟨RS, hRS⟩ := nm (ofL (rowD S))
  have hRSl : RS.size ≤ 610 := by
    rw [hRS.out, ofL_size, rowD, List.length_append]
    have h1 := Pl.num_length_le S.length (by rw [← hK.out]; omega)
    have h2 := namesD_le S HSI.out
    rw [← hK.out] at h2
    omega
  have hZl : (RS ++ R).size ≤ 1000000 := by rw [app_size]; omega
  have HZ : Hid (RS ++ R = ofL (rowD S) ++ R) := by show _ = _; rw [hRS.out]
  obtain ⟨Z, hZ⟩ := nm (RS ++ R)
  rw [← hZ.out] at hZl HZ
  go_wp2_with fail
  refine (sort_at am M S N K cm hN.out.symm (hidSymm hS) (hidSymm hK) _ HSM.out (by omega)).mono ?_; rintro e w2 ⟨aS, cS, rfl, hcS, hslS, _, hB⟩
  have HSS := Lib.hid hslS
  have HMS := Lib.hid (HSM.out.below hB)
  have HB1 := Lib.hid (bNext hBw.out hB)
  clear hslS hB HSM hBw
  go_wp2_with fail
  refine (row_any aS S K cS (hidSymm hK) (by omega) HSI _ HSS.out RS hRS).mono ?_; rintro e w3 ⟨rfl, hB⟩
  have HSS1 := Lib.hid (HSS.out.below hB)
  have HMS1 := Lib.hid (HMS.out.below hB)
  have HB2 := Lib.hid (bNext HB1.out hB)
  clear hB HSS HMS HB1
  go_wp2_with fail
  rw [← hZ.out]
  refine (read2_any Z _).mono ?_; rintro e w4 ⟨b, rfl, hb, hr, hB⟩
  have HB3 := Lib.hid (bNext HB2.out hB)
  have hwb : w.heap.size ≤ b := Nat.le_trans HB2.out.size hb
  have HBr := Lib.hid hB
  clear hB HB2
  go_wp2_with fail
  refine (readrow_is b Z R S K hK (by omega) HA HSO HZ hZl _ hr).mono ?_; rintro e w5 ⟨aT, cT, rfl, ⟨hslT, _⟩, hrT, k5⟩
  have HSS2 := Lib.hid (HSS1.out.keptNew HBr.out k5 hb)
  have HMS2 := Lib.hid (HMS1.out.keptNew HBr.out k5 hb)
  have hB5 := HB3.out.trans (k5.below hwb HB3.out.size)
  clear hr k5 HSS1 HMS1 HBr
  go_wp2_with fail
  refine (same_any aS aT cS cT K K S S (hidSymm hK) (hidSymm hK) _ (by omega) HSS2.out hslT true (by show _ = _; exact (decide_eq_true rfl).symm)).mono ?_; rintro e w6 ⟨rfl, q6, rfl⟩
  have hrU : RdAt (w5.drewN q6) b false R := hrT
  have HMS3 : Hid (SlP (w5.drewN q6) am M) := HMS2.out
  have hB6 := below_drewN hB5 q6
  obtain ⟨w6, hw6⟩ := nm (w5.drewN q6)
  rw [← hw6.out] at hrU HMS3 hB6 ⊢
  have hRR : (R.toList != R.toList) = false := by simp
  have HB6 := Lib.hid hB6
  clear hw6 hrT hslT HSS2 HMS2 hB5 hB6
  go_wp2_with fail
  refine (left_r b w6 R hrU).mono ?_; rintro e w7 ⟨rfl, rfl⟩
  go_wp2_with fail
  refine (fine_r b w6 R hrU).mono ?_; rintro e w7 ⟨rfl, rfl⟩
  clear hrU
  go_wp2_with fail
  go_loopw [12] (fun i wr => ∃ k : Nat, k ≤ N ∧ i = .int .i64 (k : Int) ∧ Below w6.heap.size w6 wr) (fun i _ => N - (intOf i).toNat)
  case atStart => exact ⟨0, by omega, rfl, Below.refl _ _⟩
  case round =>
    obtain ⟨k, hk, rfl, hB⟩ := hrel
    by_cases hlt : k < N
    · have HMr := Lib.hid (HMS3.out.below hB)
      obtain ⟨g, off, u, v, rfl, hgl, d0, d1, hpk⟩ := HMr.out.get k (by rw [← hN.out]; exact hlt)
      have hok : OkP (u, v) := HMO.out _ (List.mem_of_getElem? hpk.out)
      have HOK := Lib.hid hok
      have hx := hok.inD.1
      have hy := hok.inD.2
      simp only at hx hy
      have HC : Hid (true = okD u v) := hok.ok.symm
      obtain ⟨s2, h2⟩ := nm (ofL (bytesD (u, v)))
      have l2 : s2.size ≤ 20 := by rw [h2.out, ofL_size]; exact bytesD_le _ ⟨hx, hy⟩
      have hZk : (s2 ++ R).size ≤ 1000000 := by rw [app_size]; omega
      have HZk : Hid (s2 ++ R = ofL (bytesD (u, v)) ++ R) := by show _ = _; rw [h2.out]
      obtain ⟨Y, hY⟩ := nm (s2 ++ R)
      rw [← hY.out] at hZk HZk
      clear hok
      go_wp2_with fail
      refine (bytes_any u v _ hx hy s2 h2).mono ?_; rintro e w8 ⟨rfl, hB8⟩
      have e0 : w8.cell? ⟨g, off + k * 2, none⟩ = some (.int .i64 u) := (hB8.cell (p := ⟨g, off + k * 2, none⟩) hgl).trans d0
      have e1 : w8.cell? ⟨g, off + k * 2 + 1, none⟩ = some (.int .i64 v) := (hB8.cell (p := ⟨g, off + k * 2 + 1, none⟩) hgl).trans d1
      have hg8 : g < w8.heap.size := Nat.lt_of_lt_of_le hgl hB8.size
      have hBk := bNext hB hB8
      clear d0 d1 hB8 hB
      go_wp2_with fail
      rw [← hY.out]
      refine (read2_any Y _).mono ?_; rintro e w9 ⟨b9, rfl, hb9, hr9, hB9⟩
      have d0 : w9.cell? ⟨g, off + k * 2, none⟩ = some (.int .i64 u) := (hB9.cell (p := ⟨g, off + k * 2, none⟩) hg8).trans e0
      have d1 : w9.cell? ⟨g, off + k * 2 + 1, none⟩ = some (.int .i64 v) := (hB9.cell (p := ⟨g, off + k * 2 + 1, none⟩) hg8).trans e1
      have hg9 : g < w9.heap.size := Nat.lt_of_lt_of_le hg8 hB9.size
      have hBm := bNext hBk hB9
      have hwb9 : w6.heap.size ≤ b9 := Nat.le_trans hBk.size hb9
      have hr10 : IsRd w9.drew b9 ⟨Y, false⟩ := hr9
      have HG : Hid (∀ w' : World, Kept b9 w9.drew w' → (w'.cell? ⟨g, off + k * 2, none⟩ = some (.int .i64 u) ∧ w'.cell? ⟨g, off + k * 2 + 1, none⟩ = some (.int .i64 v)) ∧ g < w'.heap.size) := by
        intro w' hk'
        have e : ∀ o, w'.cell? ⟨g, o, none⟩ = w9.cell? ⟨g, o, none⟩ := fun o => by
          have := hk'.block g hg9 (by omega)
          simp only [World.cell?, this]; rfl
        exact ⟨⟨by rw [e]; exact d0, by rw [e]; exact d1⟩, Nat.lt_of_lt_of_le hg9 hk'.size⟩
      have hki0 : (0 : Int) ≤ (k : Int) := by omega
      have hki1 : (k : Int) < (N : Int) := by omega
      have heq := fun w => neqD u v u v true (by simp) w
      have hgd := fun (a b : Operand) (w : World) => guardD .neq a b #[.int .i64 u, .int .i64 v] #[.int .i64 u, .int .i64 v] w
      have hBq : Below w6.heap.size w6 w9.drew := below_drewN hBm 1
      clear e0 e1 hBk hB9 hb9 hr9 hBm
      go_wp2_with fail
      go_region_held3 (fun w' => w'.cell? ⟨g, off + k * 2, none⟩ = some (.int .i64 u) ∧ w'.cell? ⟨g, off + k * 2 + 1, none⟩ = some (.int .i64 v)) (first | assumption | go_keep)
        (first
          | (go_at_call 30; (refine (rdot_is b9 Y R u v HOK HZk hZk _ hr10).mono ?_); rintro e wa ⟨rfl, hra, ka⟩; have hga := HG.out _ ka; have ga := hga.1; have hBa := hBq.trans (ka.below hwb9 hBq.size))
          | (go_at_call 33; (refine (left_r b9 _ R hra).mono ?_); rintro e wl ⟨rfl, rfl⟩)
          | (go_at_call 21; (refine (check_any u v true HC _).mono ?_); rintro e wc2 ⟨rfl, hBc2⟩; have gb := (HG.out _ (ka.trans (Kept.ofBelow hBc2))).1; have hBb := bNext hBa hBc2))
      clear heq hgd
      go_wp2_with fail
      go_roundw
      case rel => exact ⟨k + 1, by omega, by go_num, hBb⟩
      case measure => simp [intOf]; omega
    · obtain rfl : k = N := by omega
      go_wp2_with fail
      go_ret
      exact ⟨rfl, bNext HB6.out hB⟩
namespace LDotBack
open Go.ChangeShapes Go.WideShapes Go.ChangeAt
open Go.ChangeMaps (open_string shut_string)

set_option maxRecDepth 100000 in
theorem contract (H : Type) (enc : TypeId × Value → H) (W : World) (base : Nat) (args : Array Value) (ds gs : List (DataW H)) (before : List MemPlace)
    (hval : ∀ (j : Nat) t v, Try.f8.params[j]? = some t → args[j]? = some v → Value.okWide Try.prog W .any base t v)
    (hW : DataW.Whole enc Try.prog Try.f8.params.toList Rows.dotBackSpec.vars false W args.toList ds gs before)
    (_hsz : (DataW.weightsEach Try.prog (Try.f8.params.toList ++ (OpenSpec.ofChange Rows.dotBackSpec).bare.plain.varTypes Try.prog) (ds ++ gs)).all (fun x => decide (x ≤ reachBytes)) = true) :
    Calls Try.prog 8 args W fun e W' => ∃ v, e = .returned v ∧ Rows.dotBackSpec.post enc Try.prog Try.f8 false true false false W args v W' := by
  have hW' := hW
  obtain ⟨p, q, hA0, hV, rfl, hfz, hnd⟩ := hW
  have hA : DataW.TrodAll enc Try.prog W 0 (fun _ => true) true Try.f8.params.toList args.toList ds p := hA0
  rw [Try.params8] at hA hval
  obtain ⟨v0, vs0, d0, ds0, p0, q0, hargs, rfl, rfl, h0, r0⟩ := trodAll_cons hA
  obtain ⟨v1, vs1, d1, ds1, p1, q1, rfl, rfl, rfl, h1, r1⟩ := trodAll_cons r0
  obtain ⟨rfl, rfl, rfl⟩ := trodAll_nil r1
  obtain rfl : args = #[v0, v1] := by cases args; simp_all
  obtain ⟨rfl, rfl⟩ := trodVars_none hV
  obtain ⟨ao0, len0, cap0, l0, rfl, hl0, hlc0, hcm0, hat0, hbd0⟩ := open_pairs Try.underlying27 Try.underlying23 (show Try.prog.cellsOf 23 = 2 by kernel_rfl) ⟨rfl, rfl⟩ ⟨rfl, rfl⟩ Try.underlying3 (show Try.prog.cellsOf 3 = 1 by kernel_rfl) h0 (okWide_slice Try.underlying27 (hval 0 27 v0 rfl rfl))
  obtain ⟨x1, rfl, rfl, rfl, k1⟩ := open_string Try.underlying9 (hval 1 9 v1 rfl rfl) h1
  clear hA0
  refine (dotBack_walk ao0 l0 len0 cap0 hl0 (by unfold maxLen at hcm0; omega) x1 W hat0).mono fun e W' ⟨he, hb⟩ => ?_
  subst he
  exact ⟨_, rfl, law_post laidOut Try.underlying4 rfl (by kernel_rfl) rfl rfl rfl rfl hW' hb⟩

theorem reads (os : Os) {H : Type} (enc : TypeId × Value → H) : ∃ places, DataW.whole enc Try.prog ((World.holding Try.prog os ⟨#[], #[], []⟩).forCall (fun _ _ => 0) ⟨#[], #[.slice none 0 0, .string .empty], []⟩).memory Try.f8.params.toList Rows.dotBackSpec.vars false (#[.slice none 0 0, .string .empty] : Array Value).toList 8 = some ([.nil, .lit (.string [])], [], places) :=
  ⟨[], by kernel_rfl⟩
theorem laid_met (os : Os) : laidMet Try.prog Rows.dotBackRow.laid ((World.holding Try.prog os ⟨#[], #[], []⟩).forCall (fun _ _ => 0) ⟨#[], #[.slice none 0 0, .string .empty], []⟩).memory :=
  laidMet_of_run' 8 (by kernel_rfl) (by kernel_rfl)

set_option maxRecDepth 100000 in
theorem lifted (os : Os) (started : os.Started) (H : Type) (enc : TypeId × Value → H) (F : Stop.Interp) :
    ReturnsInHanded {} Try.checked os 8 .any ((OpenSpec.ofChange Rows.dotBackSpec).preRow enc Try.prog Try.f8 Rows.dotBackRow.domain false Rows.dotBackRow.laid) (((OpenSpec.ofChange Rows.dotBackSpec).at F).post enc Try.prog Try.f8 false true false false) := by
  obtain ⟨places, hx⟩ := reads os enc
  refine returnsInHanded_of_row (C := Try.checked) (s := OpenSpec.ofChange Rows.dotBackSpec) own started (by kernel_rfl) Try.func8
    (witness_row_at (enc := enc) (C := Try.checked) false (World.holding Try.prog os ⟨#[], #[], []⟩) #[.slice none 0 0, .string .empty] rfl (by kernel_rfl) (by kernel_rfl) (by kernel_rfl)
      (OpenSpec.preRow_of_cond 8 hx (by kernel_rfl) (fun k hk => by cases hk) (by kernel_rfl) (laid_met os))) ?_
  intro W base args ds gs before hval hW _ _ hsz hL _ _
  exact contract H enc W base args ds gs before hval hW hsz

theorem said : Rows.DotBackSaid :=
  OpenClaim.holds_of_cond 8 Try.f8 rfl rfl rfl rfl rfl rfl rfl ⟨rfl, rfl, rfl, rfl, rfl⟩ rfl rfl rfl rfl rfl (by kernel_rfl) Try.func8 (by kernel_rfl)
    (of_decide_eq_true (by kernel_rfl)) (by unfold Func.isWrapper; first | (rw [if_pos (by decide +kernel)]; kernel_rfl) | (rw [if_neg (by decide +kernel)]; exact ⟨rfl, rfl⟩))
    (fun os started H enc _ F => by rw [OpenClaim.pre_eq_preRow]; exact lifted os started H enc F)
end LDotBack
end Go.Proofs.Ythhcooabfgegaaa
